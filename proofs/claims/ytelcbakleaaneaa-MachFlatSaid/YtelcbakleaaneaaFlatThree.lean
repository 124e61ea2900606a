/- Steps of the proof: The least machine: searches and classes, in plain Lean; The least machine: the second program's search and classes; The least machine: the second program's classes and answer; The least machine: the second program's answer; The least machine: the first program's classes; The least machine: the first program's answer; The least machine: the law MachMinimal; One machine for a net: the least machine of machines by numbers, in both programs. -/
import Derived.Test.YtelcbakleaaneaaFlatTwo
import Derived.Test.YtelcbakleaaneaaCode1
set_option linter.unusedVariables false
set_option linter.unusedSimpArgs false
set_option linter.unusedSectionVars false
section
namespace Go.Proofs.Ytelcbakleaaneaa
open Go Go.Proofs.Ytelcbakleaaneaa.VM
def pos {κ:Type} [DecidableEq κ] (x:κ):List κ → Nat
 | [] => 0
 | y :: l => if x = y then 0 else pos x l + 1
section
variable {κ:Type} [DecidableEq κ]
theorem pos_get {x:κ}:∀ {l:List κ},x ∈ l → l[pos x l]? = some x
 | y :: l,h => by
  unfold pos
  by_cases g:x = y
  ·simp [g]
  ·have:=pos_get (l:=l) (by simpa [g] using h)
   simp [g,this]
theorem pos_lt {x:κ} {l:List κ} (h:x ∈ l):pos x l < l.length:=(List.getElem?_eq_some_iff.1 (pos_get h)).1
theorem pos_app {x:κ}:∀ {l:List κ} (m:List κ),x ∈ l → pos x (l ++ m) = pos x l
 | y :: l,m,h => by
  by_cases g:x = y
  ·simp [pos,g]
  ·simp [pos,g,pos_app (l:=l) m (by simpa [g] using h)]
theorem pos_new {x:κ}:∀ {l:List κ},x ∉ l → pos x (l ++ [x]) = l.length
 | [],_ => by simp [pos]
 | y :: l,h => by
  simp only [List.mem_cons,not_or] at h
  simp [pos,h.1,pos_new h.2]
variable {key:κ → FV} {ag:Bool} {sk:List SK}
def idxM (key:κ → FV):Nat → List κ → List (FV × FV)
 | _,[] => []
 | i,s :: l => (key s,.int .i64 (i:Int)) :: idxM key (i + 1) l
theorem idxM_len:∀ (i:Nat) (l:List κ),(idxM key i l).length = l.length
 | _,[] => rfl
 | i,s :: l => by simp [idxM,idxM_len (i + 1) l]
theorem mFind_idx (hk:∀ a b,keyEq ag sk (key a) (key b) = some (decide (a = b))) (s:κ):∀ (l:List κ) (i:Nat),mFind ag sk (idxM key i l) (key s) = some (if s ∈ l then some (.int .i64 ((i + pos s l:Nat):Int)) else none)
 | [],i => by simp [idxM,mFind]
 | a :: l,i => by
  have:=mFind_idx hk s l (i + 1)
  simp only [idxM,mFind,hk,bindO_s] at this ⊢
  by_cases g:s = a
  ·simp [g,pos]
  ·rw [this]
   by_cases g2:s ∈ l
   ·simp [g,g2,pos];omega
   ·simp [g,g2]
theorem mLook_idx (hk:∀ a b,keyEq ag sk (key a) (key b) = some (decide (a = b))) (hok:∀ a,keyOk ag sk (key a) = true) (s:κ) (l:List κ):mLook ag sk (idxM key 0 l) (key s) (.int .i64 0) = some (.int .i64 (if s ∈ l then (pos s l:Int) else 0),decide (s ∈ l)):=by
 unfold mLook
 rw [hok,mFind_idx hk]
 by_cases g:s ∈ l <;> simp [g]
theorem mPut_idx (hk:∀ a b,keyEq ag sk (key a) (key b) = some (decide (a = b))) (s:κ):∀ (l:List κ) (i:Nat),s ∉ l → mPut ag sk (idxM key i l) (key s) (.int .i64 ((i + l.length:Nat):Int)) = some (idxM key i (l ++ [s]))
 | [],i,_ => rfl
 | a :: l,i,h => by
  have:=mPut_idx hk s l (i + 1) (fun g => h (by simp [g]))
  have g:s ≠ a:=fun g => h (by simp [g])
  have e:i + (a :: l).length = i + 1 + l.length:=by simp;omega
  rw [e]
  simp only [idxM,List.cons_append,mPut,hk,bindO_s,g,decide_false] at this ⊢
  rw [this];rfl
end
section
variable (p n:Nat) (nx:Nat → Nat → Nat) (c:Nat → Nat)
def expA (add:List Nat → Nat → List Nat) (s:Nat):Nat → Nat → List Nat → List Nat
 | 0,_,L => L
 | d + 1,k,L => expA add s d (k + 1) (add L (nx s k))
def bfs (add:List Nat → Nat → List Nat):Nat → Nat → List Nat → List Nat
 | 0,_,L => L
 | d + 1,i,L => match L[i]? with
  | none => L
  | some s => bfs add d (i + 1) (expA nx add s p 0 L)
def addR (L:List Nat) (t:Nat):List Nat:=if t ∈ L then L else L ++ [t]
def addC (L:List Nat) (t:Nat):List Nat:=if c t ∈ L.map c then L else L ++ [t]
def hd (L:List Nat):List Nat:=L.foldl (addC c) []
variable {p n nx c}
theorem hd_snoc (L:List Nat) (t:Nat):hd c (L ++ [t]) = addC c (hd c L) t:=by simp [hd,List.foldl_append]
theorem mem_fold:∀ (L A:List Nat) (x:Nat),x ∈ (L.foldl (addC c) A).map c ↔ x ∈ A.map c ∨ x ∈ L.map c
 | [],A,x => by simp
 | t :: L,A,x => by
  rw [List.foldl_cons,mem_fold L _ x]
  unfold addC
  by_cases g:c t ∈ A.map c
  ·rw [if_pos g]
   simp only [List.map_cons,List.mem_cons]
   constructor
   ·rintro (h | h)
    ·exact .inl h
    ·exact .inr (.inr h)
   ·rintro (h | h | h)
    ·exact .inl h
    ·exact .inl (h ▸ g)
    ·exact .inr h
  ·rw [if_neg g]
   simp only [List.map_append,List.map_cons,List.map_nil,List.mem_append,List.mem_cons,List.not_mem_nil,or_false]
   constructor
   ·rintro ((h | h) | h)
    ·exact .inl h
    ·exact .inr (.inl h)
    ·exact .inr (.inr h)
   ·rintro (h | h | h)
    ·exact .inl (.inl h)
    ·exact .inl (.inr h)
    ·exact .inr h
theorem mem_hd (L:List Nat) (x:Nat):x ∈ (hd c L).map c ↔ x ∈ L.map c:=by
 unfold hd
 rw [mem_fold];simp
theorem addC_pre (A:List Nat) (t:Nat):A <+: addC c A t:=by
 unfold addC
 split
 ·exact List.prefix_refl _
 ·exact List.prefix_append _ _
theorem fold_pre:∀ (L A:List Nat),A <+: L.foldl (addC c) A
 | [],A => List.prefix_refl _
 | t :: L,A => (addC_pre A t).trans (fold_pre L _)
theorem hd_pre (L M:List Nat):hd c L <+: hd c (L ++ M):=by
 unfold hd
 rw [List.foldl_append]
 exact fold_pre M _
theorem hd_len:∀ (L A:List Nat),(L.foldl (addC c) A).length ≤ A.length + L.length
 | [],A => by simp
 | t :: L,A => by
  have:=hd_len L (addC c A t)
  have h2:(addC c A t).length ≤ A.length + 1:=by unfold addC;split <;> simp
  simp only [List.foldl_cons,List.length_cons]
  omega
theorem hd_sub:∀ (L A:List Nat) (x:Nat),x ∈ L.foldl (addC c) A → x ∈ A ∨ x ∈ L
 | [],A,x,h => .inl h
 | t :: L,A,x,h => by
  rcases hd_sub L _ x h with h | h
  ·unfold addC at h
   split at h
   ·exact .inl h
   ·simp only [List.mem_append,List.mem_singleton] at h
    rcases h with h | h
    ·exact .inl h
    ·exact .inr (by simp [h])
  ·exact .inr (by simp [h])
theorem fold_nodup:∀ (L A:List Nat),(A.map c).Nodup → ((L.foldl (addC c) A).map c).Nodup
 | [],A,h => h
 | t :: L,A,h => by
  refine fold_nodup L _ ?_
  unfold addC
  by_cases g:c t ∈ A.map c
  ·rw [if_pos g];exact h
  ·rw [if_neg g,List.map_append,List.nodup_append]
   exact ⟨h,by simp,fun y hy z hz => by simp at hz;subst hz;exact fun e => g (e ▸ hy)⟩
theorem hd_nodup (L:List Nat):((hd c L).map c).Nodup:=fold_nodup L [] (by simp)
theorem hd_addR (L:List Nat) (t:Nat):hd c (addR L t) = addC c (hd c L) t:=by
 unfold addR
 by_cases g:t ∈ L
 ·rw [if_pos g]
  unfold addC
  rw [if_pos ((mem_hd L _).2 (List.mem_map_of_mem g))]
 ·rw [if_neg g,hd_snoc]
theorem hd_exp (s:Nat):∀ (d k:Nat) (L:List Nat),hd c (expA nx addR s d k L) = expA nx (addC c) s d k (hd c L)
 | 0,_,_ => rfl
 | d + 1,k,L => by
  unfold expA
  rw [hd_exp s d (k + 1),hd_addR]
theorem exp_nop (s:Nat):∀ (d k:Nat) (M:List Nat),(∀ q,k ≤ q → q < k + d → c (nx s q) ∈ M.map c) → expA nx (addC c) s d k M = M
 | 0,_,_,_ => rfl
 | d + 1,k,M,h => by
  unfold expA
  rw [show addC c M (nx s k) = M by unfold addC;rw [if_pos (h k (Nat.le_refl _) (by omega))]]
  exact exp_nop s d (k + 1) M (fun q h1 h2 => h q (by omega) (by omega))
theorem expC_pre (s:Nat):∀ (d k:Nat) (M:List Nat),M <+: expA nx (addC c) s d k M
 | 0,_,_ => List.prefix_refl _
 | d + 1,k,M => (addC_pre M _).trans (expC_pre s d (k + 1) _)
theorem expR_pre (s:Nat):∀ (d k:Nat) (M:List Nat),M <+: expA nx addR s d k M
 | 0,_,_ => List.prefix_refl _
 | d + 1,k,M => by
  refine List.IsPrefix.trans ?_ (expR_pre s d (k + 1) _)
  unfold addR
  split
  ·exact List.prefix_refl _
  ·exact List.prefix_append _ _
theorem expR_mem (s:Nat):∀ (d k:Nat) (M:List Nat) (q:Nat),k ≤ q → q < k + d → nx s q ∈ expA nx addR s d k M
 | 0,_,_,q,h1,h2 => by omega
 | d + 1,k,M,q,h1,h2 => by
  unfold expA
  by_cases g:q = k
  ·subst g
   have h:nx s q ∈ addR M (nx s q):=by
    unfold addR
    by_cases g2:nx s q ∈ M
    ·rw [if_pos g2];exact g2
    ·rw [if_neg g2];simp
   exact (expR_pre s d (q + 1) _).subset h
  ·exact expR_mem s d (k + 1) _ q (by omega) (by omega)
theorem expR_good (s:Nat):∀ (d k:Nat) (M:List Nat),(∀ q,q < k + d → nx s q < n) → M.Nodup → (∀ x ∈ M,x < n) → (expA nx addR s d k M).Nodup ∧ ∀ x ∈ expA nx addR s d k M,x < n
 | 0,_,M,_,h1,h2 => ⟨h1,h2⟩
 | d + 1,k,M,hq,h1,h2 => by
  unfold expA
  refine expR_good s d (k + 1) _ (fun q h => hq q (by omega)) ?_ ?_
  ·unfold addR
   by_cases g:nx s k ∈ M
   ·rw [if_pos g];exact h1
   ·rw [if_neg g,List.nodup_append]
    exact ⟨h1,by simp,fun y hy z hz => by simp at hz;subst hz;exact fun e => g (e ▸ hy)⟩
  ·intro x hx
   unfold addR at hx
   split at hx
   ·exact h2 x hx
   ·simp only [List.mem_append,List.mem_singleton] at hx
    rcases hx with hx | rfl
    ·exact h2 x hx
    ·exact hq k (by omega)
variable (p n nx) in
structure Good (L:List Nat) (i:Nat):Prop where
 nd:L.Nodup
 lt:∀ x ∈ L,x < n
 le:i ≤ L.length
 cl:∀ x ∈ L.take i,∀ k,k < p → nx x k ∈ L
theorem Good.len {L:List Nat} {i:Nat} (h:Good p n nx L i):L.length ≤ n:=pigD n L h.nd h.lt
theorem Good.next (hnx:∀ s,s < n → ∀ k,k < p → nx s k < n) {L:List Nat} {i s:Nat} (h:Good p n nx L i) (hs:L[i]? = some s):Good p n nx (expA nx addR s p 0 L) (i + 1) ∧ (expA nx addR s p 0 L).take (i + 1) = L.take i ++ [s]:=by
 have hi:=(List.getElem?_eq_some_iff.1 hs).1
 have hp:=expR_pre (nx:=nx) s p 0 L
 have hl:=hp.length_le
 have ht:(expA nx addR s p 0 L).take (i + 1) = L.take i ++ [s]:=by
  obtain ⟨r,hr⟩:=hp
  rw [← hr,List.take_append_of_le_length (by omega),List.take_add_one,hs]
  rfl
 have hsn:=h.lt s (List.mem_of_getElem? hs)
 obtain ⟨g1,g2⟩:=expR_good (n:=n) (nx:=nx) s p 0 L (fun q hq => hnx s hsn q (by omega)) h.nd h.lt
 refine ⟨⟨g1,g2,by omega,fun x hx k hk => ?_⟩,ht⟩
 rw [ht,List.mem_append,List.mem_singleton] at hx
 rcases hx with hx | rfl
 ·exact hp.subset (h.cl x hx k hk)
 ·exact expR_mem x p 0 L k (Nat.zero_le _) (by omega)
theorem bfs_good (hnx:∀ s,s < n → ∀ k,k < p → nx s k < n):∀ (d i:Nat) (L:List Nat),n - i ≤ d → Good p n nx L i → ∃ j,Good p n nx (bfs p nx addR d i L) j ∧ j = (bfs p nx addR d i L).length ∧ L <+: bfs p nx addR d i L
 | 0,i,L,hd,h => ⟨i,h,by have:=h.len;have:=h.le;simp only [bfs];omega,List.prefix_refl _⟩
 | d + 1,i,L,hd,h => by
  unfold bfs
  cases hs:L[i]? with
  | none => exact ⟨i,h,by have:=List.getElem?_eq_none_iff.1 hs;have:=h.le;simp only;omega,List.prefix_refl _⟩
  | some s =>
   obtain ⟨j,g1,g2,g3⟩:=bfs_good hnx d (i + 1) _ (by omega) (h.next hnx hs).1
   exact ⟨j,g1,g2,(expR_pre s p 0 L).trans g3⟩
theorem bfs_none {add:List Nat → Nat → List Nat} {d i:Nat} {L:List Nat} (h:L[i]? = none):bfs p nx add d i L = L:=by
 cases d with
 | zero => rfl
 | succ d => simp [bfs,h]
theorem bfs_some {add:List Nat → Nat → List Nat} {d i s:Nat} {L:List Nat} (h:L[i]? = some s):bfs p nx add (d + 1) i L = bfs p nx add d (i + 1) (expA nx add s p 0 L):=by
 simp [bfs,h]
theorem bfs_sim (hnx:∀ s,s < n → ∀ k,k < p → nx s k < n) (hc:∀ x,x < n → ∀ y,y < n → c x = c y → ∀ k,k < p → c (nx x k) = c (nx y k)):∀ (d i:Nat) (L:List Nat) (e:Nat),n - i ≤ d → Good p n nx L i → n - (hd c (L.take i)).length ≤ e → hd c (bfs p nx addR d i L) = bfs p nx (addC c) e (hd c (L.take i)).length (hd c L):=by
 have done:∀ (L:List Nat) (e:Nat),hd c L = bfs p nx (addC c) e (hd c L).length (hd c L):=fun L e => (bfs_none (by simp)).symm
 intro d
 induction d with
 | zero =>
  intro i L e hd' h he
  have:=h.len
  have:=h.le
  rw [List.take_of_length_le (by omega)]
  exact done L e
 | succ d ih =>
  intro i L e hd' h he
  have hle:=h.len
  cases hs:L[i]? with
  | none =>
   rw [bfs_none hs,List.take_of_length_le (List.getElem?_eq_none_iff.1 hs)]
   exact done L e
  | some s =>
   rw [bfs_some hs]
   obtain ⟨g1,g2⟩:=h.next hnx hs
   have hi:=(List.getElem?_eq_some_iff.1 hs).1
   have hsn:=h.lt s (List.mem_of_getElem? hs)
   have ih':=ih (i + 1) (expA nx addR s p 0 L)
   rw [g2,hd_snoc,hd_exp] at ih'
   by_cases gc:c s ∈ (L.take i).map c
   ·have ec:addC c (hd c (L.take i)) s = hd c (L.take i):=by
     unfold addC;rw [if_pos ((mem_hd _ _).2 gc)]
    obtain ⟨y,hy,hys⟩:=List.mem_map.1 gc
    have hyn:=h.lt y (List.mem_of_mem_take hy)
    rw [ec,exp_nop s p 0 (hd c L) (fun q _ hq => by
     rw [← hc y hyn s hsn hys q (by omega)]
     exact (mem_hd _ _).2 (List.mem_map_of_mem (h.cl y hy q (by omega))))] at ih'
    exact ih' e (by omega) g1 he
   ·have ec:addC c (hd c (L.take i)) s = hd c (L.take i) ++ [s]:=by
     unfold addC;rw [if_neg (fun g => gc ((mem_hd _ _).1 g))]
    have hj:(hd c L)[(hd c (L.take i)).length]? = some s:=by
     have hp:=hd_pre (c:=c) (L.take i ++ [s]) (L.drop (i + 1))
     rw [hd_snoc,ec] at hp
     have:L.take i ++ [s] ++ L.drop (i + 1) = L:=by
      rw [List.append_assoc,List.singleton_append,← (List.getElem?_eq_some_iff.1 hs).2,List.getElem_cons_drop,List.take_append_drop]
     rw [this] at hp
     obtain ⟨r,hr⟩:=hp
     rw [← hr]
     simp
    have hjn:(hd c (L.take i)).length < n:=by
     have h1:=(List.getElem?_eq_some_iff.1 hj).1
     have h2:=hd_len (c:=c) L []
     simp only [List.length_nil,Nat.zero_add] at h2
     unfold hd at h1
     unfold hd
     omega
    rw [ec] at ih'
    cases e with
    | zero => omega
    | succ e =>
     rw [bfs_some hj]
     have:=ih' e (by omega) g1 (by simp;omega)
     simpa using this
theorem bfs_heads (hnx:∀ s,s < n → ∀ k,k < p → nx s k < n) (hc:∀ x,x < n → ∀ y,y < n → c x = c y → ∀ k,k < p → c (nx x k) = c (nx y k)) {a:Nat} (ha:a < n):hd c (bfs p nx addR n 0 [a]) = bfs p nx (addC c) n 0 [a]:=by
 have h0:Good p n nx [a] 0:=⟨by simp,by simp [ha],by simp,by simp⟩
 have:=bfs_sim hnx hc n 0 [a] n (by omega) h0 (by simp)
 simpa [hd,addC] using this
end
section
variable (p:Nat) (nx:Nat → Nat → Nat) (sy:Nat → Nat → List Int)
def EQ:Nat → Nat → Nat → Prop
 | 0,_,_ => True
 | j + 1,s,t => EQ j s t ∧ ∀ k,k < p → sy s k = sy t k ∧ EQ j (nx s k) (nx t k)
def Same (s t:Nat):Prop:=∀ j,EQ p nx sy j s t
variable {p nx sy}
theorem EQ.refl:∀ (j s:Nat),EQ p nx sy j s s
 | 0,_ => trivial
 | j + 1,s => ⟨EQ.refl j s,fun k _ => ⟨rfl,EQ.refl j _⟩⟩
theorem EQ.symm:∀ {j s t:Nat},EQ p nx sy j s t → EQ p nx sy j t s
 | 0,_,_,_ => trivial
 | j + 1,s,t,h => ⟨h.1.symm,fun k hk => ⟨(h.2 k hk).1.symm,(h.2 k hk).2.symm⟩⟩
theorem EQ.trans:∀ {j s t u:Nat},EQ p nx sy j s t → EQ p nx sy j t u → EQ p nx sy j s u
 | 0,_,_,_,_,_ => trivial
 | j + 1,s,t,u,h,g => ⟨h.1.trans g.1,fun k hk => ⟨(h.2 k hk).1.trans (g.2 k hk).1,(h.2 k hk).2.trans (g.2 k hk).2⟩⟩
theorem Same.step {s t:Nat} (h:Same p nx sy s t) {k:Nat} (hk:k < p):sy s k = sy t k ∧ Same p nx sy (nx s k) (nx t k) :=
 ⟨((h 1).2 k hk).1,fun j => ((h (j + 1)).2 k hk).2⟩
theorem Same.refl (s:Nat):Same p nx sy s s:=fun j => EQ.refl j s
theorem Same.symm {s t:Nat} (h:Same p nx sy s t):Same p nx sy t s:=fun j => (h j).symm
theorem Same.trans {s t u:Nat} (h:Same p nx sy s t) (g:Same p nx sy t u):Same p nx sy s u:=fun j => (h j).trans (g j)
variable {l:List Nat}
theorem stable (hcl:∀ s ∈ l,∀ k,k < p → nx s k ∈ l) {j:Nat} (h:∀ s ∈ l,∀ t ∈ l,EQ p nx sy j s t → EQ p nx sy (j + 1) s t):∀ i,∀ s ∈ l,∀ t ∈ l,EQ p nx sy j s t → EQ p nx sy (j + i) s t
 | 0,_,_,_,_,g => g
 | i + 1,s,hs,t,ht,g => by
  refine ⟨stable hcl h i s hs t ht g,fun k hk => ?_⟩
  have:=(h s hs t ht g).2 k hk
  exact ⟨this.1,stable hcl h i _ (hcl s hs k hk) _ (hcl t ht k hk) this.2⟩
theorem EQ.down:∀ {i j s t:Nat},EQ p nx sy (j + i) s t → EQ p nx sy j s t
 | 0,_,_,_,h => h
 | i + 1,_,_,_,h => EQ.down (i:=i) h.1
theorem same_stable (hcl:∀ s ∈ l,∀ k,k < p → nx s k ∈ l) {j:Nat} (h:∀ s ∈ l,∀ t ∈ l,EQ p nx sy j s t → EQ p nx sy (j + 1) s t) {s t:Nat} (hs:s ∈ l) (ht:t ∈ l) (g:EQ p nx sy (j + 1) s t):Same p nx sy s t:=by
 intro i
 have h1:=stable hcl h i s hs t ht g.1
 have:EQ p nx sy (i + j) s t:=by rw [Nat.add_comm];exact h1
 exact EQ.down this
structure Heads (l:List Nat) (r:Nat → Nat → Prop) (H:List Nat):Prop where
 sub:∀ x ∈ H,x ∈ l
 dis:∀ (a b x y:Nat),H[a]? = some x → H[b]? = some y → r x y → a = b
 cov:∀ s ∈ l,∃ x ∈ H,r x s
theorem nodup_on {α β:Type} {f:α → β}:∀ {l:List α},l.Nodup → (∀ a ∈ l,∀ b ∈ l,f a = f b → a = b) → (l.map f).Nodup
 | [],_,_ => by simp
 | a :: l,h,hf => by
  rw [List.nodup_cons] at h
  rw [List.map_cons,List.nodup_cons]
  refine ⟨fun g => ?_,nodup_on h.2 (fun x hx y hy => hf x (by simp [hx]) y (by simp [hy]))⟩
  obtain ⟨b,hb,e⟩:=List.mem_map.1 g
  have:=hf b (by simp [hb]) a (by simp) e
  exact h.1 (this ▸ hb)
theorem Heads.nodup {r:Nat → Nat → Prop} (hr:∀ x,r x x) {H:List Nat} (h:Heads l r H):H.Nodup:=by
 refine List.pairwise_iff_getElem.2 fun a b ha hb hab e => ?_
 have e1:H[a]? = some H[a]:=List.getElem?_eq_getElem ha
 have e2:H[b]? = some H[b]:=List.getElem?_eq_getElem hb
 have:=h.dis a b _ _ (e1.trans (congrArg some e)) e2 (hr _)
 omega
theorem Heads.grow {r r':Nat → Nat → Prop} (hr:∀ x,r x x) (rs:∀ {x y},r x y → r y x) (rt:∀ {x y z},r x y → r y z → r x z) (rs':∀ {x y},r' x y → r' y x) (rt':∀ {x y z},r' x y → r' y z → r' x z) (hsub:∀ {x y},r' x y → r x y) {H H':List Nat} (h:Heads l r H) (h':Heads l r' H') :
  H.length ≤ H'.length ∧ (H'.length = H.length → ∀ s ∈ l,∀ t ∈ l,r s t → r' s t):=by
 have hex:∀ s,∃ a,s ∈ l → a < H'.length ∧ ∃ x,H'[a]? = some x ∧ r' x s:=fun s => by
  by_cases g:s ∈ l
  ·obtain ⟨x,hx,hxs⟩:=h'.cov s g
   obtain ⟨a,ha⟩:=List.getElem?_of_mem hx
   exact ⟨a,fun _ => ⟨(List.getElem?_eq_some_iff.1 ha).1,x,ha,hxs⟩⟩
  ·exact ⟨0,fun k => absurd k g⟩
 obtain ⟨f,hf⟩:=Classical.axiomOfChoice hex
 have fr:∀ s ∈ l,∀ t ∈ l,f s = f t → r' s t:=fun s hs t ht e => by
  obtain ⟨_,x,h1,h2⟩:=hf s hs
  obtain ⟨_,y,h3,h4⟩:=hf t ht
  rw [e,h3] at h1
  cases h1
  exact rt' (rs' h2) h4
 have hnd:=nodup_on (f:=f) (h.nodup hr) (fun a ha b hb e => by
  have hab:=hsub (fr a (h.sub a ha) b (h.sub b hb) e)
  obtain ⟨i,hi⟩:=List.getElem?_of_mem ha
  obtain ⟨j,hj⟩:=List.getElem?_of_mem hb
  have:=h.dis i j a b hi hj hab
  subst this
  rw [hi] at hj
  exact Option.some.inj hj)
 have hlt:∀ x ∈ H.map f,x < H'.length:=fun x hx => by
  obtain ⟨y,hy,rfl⟩:=List.mem_map.1 hx
  exact (hf y (h.sub y hy)).1
 refine ⟨by simpa using pigD _ _ hnd hlt,fun hlen s hs t ht g => ?_⟩
 have onto:∀ s ∈ l,∃ x ∈ H,r' x s:=fun s hs => by
  by_cases g:f s ∈ H.map f
  ·obtain ⟨x,hx,e⟩:=List.mem_map.1 g
   exact ⟨x,hx,fr x (h.sub x hx) s hs e⟩
  ·have:=pigD H'.length (f s :: H.map f) (by rw [List.nodup_cons];exact ⟨g,hnd⟩) (fun x hx => by
    rcases List.mem_cons.1 hx with rfl | hx
    ·exact (hf s hs).1
    ·exact hlt x hx)
   simp at this
   omega
 obtain ⟨x,hx,hxs⟩:=onto s hs
 obtain ⟨y,hy,hyt⟩:=onto t ht
 have hxy:r x y:=rt (rt (hsub hxs) g) (rs (hsub hyt))
 obtain ⟨i,hi⟩:=List.getElem?_of_mem hx
 obtain ⟨j,hj⟩:=List.getElem?_of_mem hy
 have:=h.dis i j x y hi hj hxy
 subst this
 rw [hi] at hj
 cases hj
 exact rt' (rs' hxs) hyt
structure RInv (l:List Nat) (r:Nat → Nat → Prop) (i:Nat) (F:Nat → Nat) (H:List Nat):Prop where
 sub:∀ x ∈ H,x ∈ l
 dis:∀ (a b x y:Nat),H[a]? = some x → H[b]? = some y → r x y → a = b
 cov:∀ s ∈ l.take i,∃ x,H[F s]? = some x ∧ r x s
theorem RInv.init (l:List Nat) (r:Nat → Nat → Prop) (F:Nat → Nat):RInv l r 0 F []:=⟨by simp,by simp,by simp⟩
theorem RInv.old {r:Nat → Nat → Prop} {i:Nat} {F:Nat → Nat} {H:List Nat} (h:RInv l r i F H) {s a x:Nat} (hs:l[i]? = some s) (ha:H[a]? = some x) (hx:r x s):RInv l r (i + 1) (fun t => if t = s then a else F t) H:=by
 refine ⟨h.sub,h.dis,fun t ht => ?_⟩
 rw [List.take_add_one,hs] at ht
 by_cases g:t = s
 ·simp only [g,if_true]
  exact ⟨x,ha,hx⟩
 ·simp only [g,if_false]
  simp only [Option.toList_some,List.mem_append,List.mem_singleton,g,or_false] at ht
  exact h.cov t ht
theorem RInv.new {r:Nat → Nat → Prop} (hr:∀ x,r x x) (rs:∀ {x y},r x y → r y x) {i:Nat} {F:Nat → Nat} {H:List Nat} (h:RInv l r i F H) {s:Nat} (hs:l[i]? = some s) (hx:∀ x ∈ H,¬ r x s):RInv l r (i + 1) (fun t => if t = s then H.length else F t) (H ++ [s]):=by
 refine ⟨fun x hx => ?_,fun a b x y ha hb hxy => ?_,fun t ht => ?_⟩
 ·rcases List.mem_append.1 hx with hx | hx
  ·exact h.sub x hx
  ·simp at hx;subst hx;exact List.mem_of_getElem? hs
 ·have split:∀ {a x:Nat},(H ++ [s])[a]? = some x → (H[a]? = some x ∧ a < H.length) ∨ (a = H.length ∧ x = s):=fun {a x} e => by
   by_cases g:a < H.length
   ·rw [List.getElem?_append_left g] at e;exact .inl ⟨e,g⟩
   ·have:=(List.getElem?_eq_some_iff.1 e).1
    have ea:a = H.length:=by simp at this;omega
    subst ea
    simp at e
    exact .inr ⟨rfl,e.symm⟩
  rcases split ha with ⟨h1,g1⟩ | ⟨g1,rfl⟩ <;> rcases split hb with ⟨h2,g2⟩ | ⟨g2,rfl⟩
  ·exact h.dis a b x y h1 h2 hxy
  ·exact absurd hxy (hx x (List.mem_of_getElem? h1))
  ·exact absurd (rs hxy) (hx y (List.mem_of_getElem? h2))
  ·omega
 ·rw [List.take_add_one,hs] at ht
  by_cases g:t = s
  ·simp only [g,if_true]
   exact ⟨s,by simp,hr s⟩
  ·simp only [g,if_false]
   simp only [Option.toList_some,List.mem_append,List.mem_singleton,g,or_false] at ht
   obtain ⟨x,h1,h2⟩:=h.cov t ht
   exact ⟨x,by rw [List.getElem?_append_left (List.getElem?_eq_some_iff.1 h1).1];exact h1,h2⟩
theorem RInv.heads {r:Nat → Nat → Prop} {i:Nat} {F:Nat → Nat} {H:List Nat} (h:RInv l r i F H) (hi:l.length ≤ i):Heads l r H :=
 ⟨h.sub,h.dis,fun s hs => by
  obtain ⟨x,h1,h2⟩:=h.cov s (by rw [List.take_of_length_le hi];exact hs)
  exact ⟨x,List.mem_of_getElem? h1,h2⟩⟩
theorem RInv.cls {r:Nat → Nat → Prop} (rs:∀ {x y},r x y → r y x) (rt:∀ {x y z},r x y → r y z → r x z) {i:Nat} {F:Nat → Nat} {H:List Nat} (h:RInv l r i F H) (hi:l.length ≤ i):∀ s ∈ l,∀ t ∈ l,F s = F t ↔ r s t:=by
 intro s hs t ht
 obtain ⟨x,h1,h2⟩:=h.cov s (by rw [List.take_of_length_le hi];exact hs)
 obtain ⟨y,h3,h4⟩:=h.cov t (by rw [List.take_of_length_le hi];exact ht)
 constructor
 ·intro e
  rw [e,h3] at h1;cases h1
  exact rt (rs h2) h4
 ·intro e
  exact h.dis _ _ x y h1 h3 (rt (rt h2 e) (rs h4))
theorem RInv.lt {r:Nat → Nat → Prop} {i:Nat} {F:Nat → Nat} {H:List Nat} (h:RInv l r i F H):∀ s ∈ l.take i,F s < H.length:=fun s hs => by
 obtain ⟨x,h1,_⟩:=h.cov s hs
 exact (List.getElem?_eq_some_iff.1 h1).1
end
section
variable {c c':Nat → Nat} {U:List Nat}
theorem mem_congr (hU:∀ a ∈ U,∀ b ∈ U,c a = c b ↔ c' a = c' b) {A:List Nat} (hA:∀ x ∈ A,x ∈ U) {t:Nat} (ht:t ∈ U):c t ∈ A.map c ↔ c' t ∈ A.map c':=by
 simp only [List.mem_map]
 constructor <;> rintro ⟨x,hx,e⟩
 ·exact ⟨x,hx,(hU x (hA x hx) t ht).1 e⟩
 ·exact ⟨x,hx,(hU x (hA x hx) t ht).2 e⟩
theorem hd_congr (hU:∀ a ∈ U,∀ b ∈ U,c a = c b ↔ c' a = c' b):∀ (L A:List Nat),(∀ x ∈ A,x ∈ U) → (∀ x ∈ L,x ∈ U) → L.foldl (addC c) A = L.foldl (addC c') A
 | [],_,_,_ => rfl
 | t :: L,A,hA,hL => by
  have ht:=hL t (by simp)
  have e:addC c A t = addC c' A t:=by
   unfold addC
   by_cases g:c t ∈ A.map c
   ·rw [if_pos g,if_pos ((mem_congr hU hA ht).1 g)]
   ·rw [if_neg g,if_neg (fun k => g ((mem_congr hU hA ht).2 k))]
  rw [List.foldl_cons,List.foldl_cons,← e]
  refine hd_congr hU L _ (fun x hx => ?_) (fun x hx => hL x (by simp [hx]))
  unfold addC at hx
  split at hx
  ·exact hA x hx
  ·rcases List.mem_append.1 hx with hx | hx
   ·exact hA x hx
   ·simp at hx;subst hx;exact ht
theorem pos_congr (hU:∀ a ∈ U,∀ b ∈ U,c a = c b ↔ c' a = c' b) {t:Nat} (ht:t ∈ U):∀ (A:List Nat),(∀ x ∈ A,x ∈ U) → pos (c t) (A.map c) = pos (c' t) (A.map c')
 | [],_ => rfl
 | y :: A,hA => by
  simp only [List.map_cons,pos]
  have ih:=pos_congr hU ht A (fun x hx => hA x (by simp [hx]))
  by_cases g:c t = c y
  ·rw [if_pos g,if_pos ((hU t ht y (hA y (by simp))).1 g)]
  ·rw [if_neg g,if_neg (fun k => g ((hU t ht y (hA y (by simp))).2 k)),ih]
end
end Go.Proofs.Ytelcbakleaaneaa
end
section
namespace Go.Proofs.Ytelcbakleaaneaa
open Go Go.Proofs.Ytelcbakleaaneaa.VM
def nxR (rows:List TRow) (p s k:Nat):Nat:=(rowN rows p s k).1.toNat
def syR (rows:List TRow) (p s k:Nat):List Int:=li (rowN rows p s k).2.1
def NV (l:List Nat):List (List FV):=l.map fun (s:Nat) => I (s:Int)
def clsV (n:Nat) (c:Nat → Nat):List (List FV):=rvec n fun t => .int .i64 (c t:Int)
def seenN (n:Nat) (L:List Nat):List (List FV):=rvec n fun t => .bool (decide (t ∈ L))
theorem NV_len (l:List Nat):(NV l).length = l.length:=by simp [NV]
theorem clsV_len (n:Nat) (c:Nat → Nat):(clsV n c).length = n:=by simp [clsV,rvec]
theorem NV_get {l:List Nat} {i s:Nat} (h:l[i]? = some s):rIdx (NV l) (.int .i64 (i:Int)) = some i ∧ rGet (NV l) i 0 = some (.int .i64 (s:Int)) ∧ fIdxC 1 (.arr (NV l)) (.int .i64 (i:Int)) = some (I (s:Int)):=by
 have hi:=(List.getElem?_eq_some_iff.1 h).1
 have hg:(NV l)[i]? = some (I (s:Int)):=by simp [NV,h]
 exact ⟨rIdx_at (by rw [NV_len];exact hi),by rw [rGet_at hg];rfl,idx_arr hg rfl⟩
theorem rvec_at {n:Nat} {g:Nat → FV} {i:Nat} (h:i < n):rIdx (rvec n g) (.int .i64 (i:Int)) = some i ∧ rGet (rvec n g) i 0 = some (g i) ∧ fIdxC 1 (.arr (rvec n g)) (.int .i64 (i:Int)) = some [g i] :=
 ⟨rIdx_at (by simpa [rvec] using h),by rw [rGet_at (rvec_get h)];rfl,idx_arr (rvec_get h) rfl⟩
theorem rep_rvec (n:Nat) (x:FV):List.replicate n [x] = rvec n fun _ => x:=by
 apply List.ext_getElem
 ·simp [rvec]
 ·intro j h1 h2;simp [rvec]
section
variable {nm:Str} {sts:Option (List Str)} {start:Int} {ins outs:Option (List TPort)} {rows:Option (List TRow)}
variable (h:OkW (li sts) start (li ins) (li outs) (li rows))
include h
theorem p_pos:1 ≤ (prodL (li ins)):=prodL_pos _ h.lens
theorem p_le:(prodL (li ins)) ≤ 4096:=h.p4
theorem nx_lt:∀ s,s < (li sts).length → ∀ k,k < (prodL (li ins)) → (nxR (li rows) (prodL (li ins))) s k < (li sts).length:=fun s hs k hk => by
 obtain ⟨_,_,_,h1,h2,_⟩:=rowW_get h rfl hs hk
 unfold nxR
 omega
theorem sy_len {s k:Nat} (hs:s < (li sts).length) (hk:k < (prodL (li ins))):((syR (li rows) (prodL (li ins))) s k).length ≤ 8:=(rowW_get h rfl hs hk).2.2.2.2.2
theorem at_wrap {s k:Nat} (hs:s < (li sts).length) (hk:k < (prodL (li ins))):IntKind.i64.wrap ((s:Int) * ((prodL (li ins)):Int)) = ((s * (prodL (li ins)):Nat):Int) ∧ IntKind.i64.wrap (((s * (prodL (li ins)):Nat):Int) + (k:Int)) = ((s * (prodL (li ins)) + k:Nat):Int):=by
 obtain ⟨_,h1,h2,_⟩:=rowW_get h rfl hs hk
 refine ⟨by rw [← Int.natCast_mul];exact wrap64 (by omega) (by omega),by rw [wrap64 (by omega) (by omega)];omega⟩
theorem next_at {s k:Nat} (hs:s < (li sts).length) (hk:k < (prodL (li ins))):fIdxC 1 (nextV (li rows)) (.int .i64 ((s * (prodL (li ins)) + k:Nat):Int)) = some (I ((nxR (li rows) (prodL (li ins))) s k:Int)) ∧ fIdxC 1 (saysV (li rows)) (.int .i64 ((s * (prodL (li ins)) + k:Nat):Int)) = some [sl I (rowN (li rows) (prodL (li ins)) s k).2.1]:=by
 obtain ⟨g,_,_,h1,h2,_⟩:=rowW_get h rfl hs hk
 refine ⟨idx_arr (by rw [List.getElem?_map,g];simp only [Option.map_some,nxR];rw [Int.toNat_of_nonneg h1]) rfl,idx_arr (by rw [List.getElem?_map,g];rfl) rfl⟩
theorem reach_L1 {i s:Nat}:∀ (d k:Nat) (L:List Nat),(prodL (li ins)) - k = d → k ≤ (prodL (li ins)) → L[i]? = some s → L.Nodup → (∀ x ∈ L,x < (li sts).length) →
  ref02_reach.L1 (.int .i64 (i:Int)) (.int .i64 (k:Int)) (.int .i64 ((prodL (li ins)):Int)) (nextV (li rows)) (saysV (li rows)) (seenN (li sts).length L) (NV L) = ref02_reach.L0 (.int .i64 ((i + 1:Nat):Int)) (.int .i64 ((prodL (li ins)):Int)) (nextV (li rows)) (saysV (li rows)) (seenN (li sts).length (expA (nxR (li rows) (prodL (li ins))) addR s d k L)) (NV (expA (nxR (li rows) (prodL (li ins))) addR s d k L)):=by
 intro d
 have hp4:=p_le h
 have hn:=h.n1
 induction d with
 | zero =>
  intro k L hd hk he hnd hlt
  have hi:=(List.getElem?_eq_some_iff.1 he).1
  have hle:=pigD (li sts).length L hnd hlt
  have w:IntKind.i64.wrap ((i:Int) + 1) = ((i + 1:Nat):Int):=wrap64 (by omega) (by omega)
  rw [ref02_reach.L1_eq]
  simp only [fBin_lss,bindO_s,fCond_b,decide_eq_true_eq,Int.ofNat_lt,show ¬ k < (prodL (li ins)) by omega,if_false,fBin_add,w,expA]
 | succ d ih =>
  intro k L hd hk he hnd hlt
  have hk':k < (prodL (li ins)):=by omega
  have hs:=hlt s (List.mem_of_getElem? he)
  have hle:=pigD (li sts).length L hnd hlt
  have w:IntKind.i64.wrap ((k:Int) + 1) = ((k + 1:Nat):Int):=wrap64 (by omega) (by omega)
  obtain ⟨m1,m2⟩:=at_wrap h hs hk'
  have hx:=nx_lt h s hs k hk'
  obtain ⟨q1,q2,_⟩:=NV_get he
  obtain ⟨v1,v2,_⟩:=rvec_at (g:=fun t => .bool (decide (t ∈ L))) hx
  rw [ref02_reach.L1_eq]
  unfold seenN at ih ⊢
  simp only [fBin_lss,bindO_s,fCond_b,decide_eq_true_eq,Int.ofNat_lt,hk',if_true,q1,q2,fBin_mul,fBin_add,m1,m2,(next_at h hs hk').1,I_zero,v1,v2,w]
  by_cases g:(nxR (li rows) (prodL (li ins))) s k ∈ L
  ·have e:addR L ((nxR (li rows) (prodL (li ins))) s k) = L:=by unfold addR;rw [if_pos g]
   have ih':=ih (k + 1) L (by omega) (by omega) he hnd hlt
   simp only [g,decide_true,fUn_not,bindO_s,Bool.not_true,fCond_b,Bool.false_eq_true,if_false,expA,e]
   exact ih'
  ·have e:addR L ((nxR (li rows) (prodL (li ins))) s k) = L ++ [(nxR (li rows) (prodL (li ins))) s k]:=by unfold addR;rw [if_neg g]
   have hL2:L[i]? = some s → (L ++ [(nxR (li rows) (prodL (li ins))) s k])[i]? = some s:=fun h => by rw [List.getElem?_append_left (List.getElem?_eq_some_iff.1 h).1];exact h
   have ih':=ih (k + 1) (L ++ [(nxR (li rows) (prodL (li ins))) s k]) (by omega) (by omega) (hL2 he) (by
    rw [List.nodup_append]
    exact ⟨hnd,by simp,fun y hy z hz => by simp at hz;subst hz;exact fun e => g (e ▸ hy)⟩) (fun x hx2 => by
    rcases List.mem_append.1 hx2 with hx2 | hx2
    ·exact hlt x hx2
    ·simp at hx2;subst hx2;exact hx)
   have v3:rSet (rvec (li sts).length fun t => .bool (decide (t ∈ L))) ((nxR (li rows) (prodL (li ins))) s k) 0 [.bool true] = some (rvec (li sts).length fun t => .bool (decide (t ∈ L ++ [(nxR (li rows) (prodL (li ins))) s k]))):=by
    refine rvec_set hx (by simp) fun j hj _ => ?_
    simp [hj]
   simp only [g,decide_false,fUn_not,bindO_s,Bool.not_false,fCond_b,if_true,v3,NV_len,show (L.length + 1) * 8 ≤ room by unfold room;omega,decide_true,gB_t,expA,e]
   rw [show NV L ++ [[FV.int .i64 ((nxR (li rows) (prodL (li ins))) s k:Int)]] = NV (L ++ [(nxR (li rows) (prodL (li ins))) s k]) by simp [NV,I]]
   exact ih'
theorem reach_L0:∀ (d i:Nat) (L:List Nat),(li sts).length - i = d → Good (prodL (li ins)) (li sts).length (nxR (li rows) (prodL (li ins))) L i →
  ref02_reach.L0 (.int .i64 (i:Int)) (.int .i64 ((prodL (li ins)):Int)) (nextV (li rows)) (saysV (li rows)) (seenN (li sts).length L) (NV L) = some (.arr (NV (bfs (prodL (li ins)) (nxR (li rows) (prodL (li ins))) addR d i L))):=by
 intro d
 have stop:∀ (d i:Nat) (L:List Nat),¬ i < L.length → ref02_reach.L0 (.int .i64 (i:Int)) (.int .i64 ((prodL (li ins)):Int)) (nextV (li rows)) (saysV (li rows)) (seenN (li sts).length L) (NV L) = some (.arr (NV (bfs (prodL (li ins)) (nxR (li rows) (prodL (li ins))) addR d i L))):=by
  intro d i L hi
  rw [ref02_reach.L0_eq,bfs_none (List.getElem?_eq_none_iff.2 (by omega))]
  simp only [NV_len,fBin_lss,bindO_s,fCond_b,decide_eq_true_eq,Int.ofNat_lt,hi,if_false]
 induction d with
 | zero =>
  intro i L hd hg
  have:=hg.len
  exact stop 0 i L (by omega)
 | succ d ih =>
  intro i L hd hg
  by_cases hi:i < L.length
  ·have he:L[i]? = some L[i]:=List.getElem?_eq_getElem hi
   rw [bfs_some he,ref02_reach.L0_eq]
   simp only [NV_len,fBin_lss,bindO_s,fCond_b,decide_eq_true_eq,Int.ofNat_lt,hi,if_true]
   have h1:=reach_L1 h (i:=i) _ 0 L rfl (Nat.zero_le _) he hg.nd hg.lt
   refine Eq.trans h1 ?_
   exact ih (i + 1) _ (by omega) (hg.next (nx_lt h) he).1
  ·exact stop (d + 1) i L hi
theorem size_quo:fBin .quo (.int .i64 ((li rows).length:Int)) (.int .i64 ((prodL (li ins)):Int)) = some (.int .i64 ((li sts).length:Int)):=by
 have hp:=p_pos h
 have hn:=h.n1
 have e:IntKind.i64.wrap (((li rows).length:Int).tdiv ((prodL (li ins)):Int)) = ((li sts).length:Int):=by
  rw [← Int.ofNat_tdiv,h.rlen,Nat.mul_div_cancel _ (by omega)]
  exact wrap64 (by omega) (by omega)
 simp only [fBin_quo,show ¬ (((prodL (li ins)):Int)) = 0 by omega,if_false,e]
theorem reach_ok:ref02_reach (.agg [.int .i64 ((prodL (li ins)):Int),nextV (li rows),saysV (li rows)]) (.int .i64 start) = some (.arr (NV (bfs (prodL (li ins)) (nxR (li rows) (prodL (li ins))) addR (li sts).length 0 [start.toNat]))):=by
 have hst:=h.st
 have hn:=h.n1
 have hs:start = ((start.toNat:Nat):Int):=by omega
 have hsn:start.toNat < (li sts).length:=by omega
 have hlen:fLen (nextV (li rows)) = some (.int .i64 ((li rows).length:Int)):=by simp [nextV,fLen]
 obtain ⟨v1,v2,_⟩:=rvec_at (g:=fun _ => FV.bool false) hsn
 have v3:rSet (rvec (li sts).length fun _ => .bool false) start.toNat 0 [.bool true] = some (seenN (li sts).length [start.toNat]):=by
  refine rvec_set hsn (by simp) fun j hj _ => ?_
  simp [hj]
 have h0:=reach_L0 h (li sts).length 0 [start.toNat] rfl ⟨by simp,by simp [hsn],by simp,by simp⟩
 rw [ref02_reach.eq]
 simp only [fIsAgg_agg,List.length_cons,List.length_nil,fCell_zero,fCell_succ,hlen,bindO_s,size_quo h,asNat_nat,Nat.le_refl,show (li sts).length * 1 ≤ room by unfold room;omega,decide_true,Bool.and_self,ge_iff_le,gB_t,rep_rvec]
 rw [hs,v1]
 simp only [bindO_s,v3,Int.toNat_natCast]
 rw [show (0 + 1 + 1 + 1 == 3) = true from rfl,gB_t]
 exact h0
theorem alike_L0 {c:Nat → Nat} {s t:Nat} (hs:s < (li sts).length) (ht:t < (li sts).length):∀ (d k:Nat),(prodL (li ins)) - k = d → k ≤ (prodL (li ins)) →
  ∃ b:Bool,ref02_alike.L0 (.arr (clsV (li sts).length c)) (.int .i64 (s:Int)) (.int .i64 (t:Int)) (.int .i64 (k:Int)) (.int .i64 ((prodL (li ins)):Int)) (nextV (li rows)) (saysV (li rows)) = some (.bool b) ∧ (b = true ↔ ∀ q,k ≤ q → q < (prodL (li ins)) → (syR (li rows) (prodL (li ins))) s q = (syR (li rows) (prodL (li ins))) t q ∧ c ((nxR (li rows) (prodL (li ins))) s q) = c ((nxR (li rows) (prodL (li ins))) t q)):=by
 intro d
 have hp4:=p_le h
 induction d with
 | zero =>
  intro k hd hk
  refine ⟨true,?_,by simp;intro q h1 h2;omega⟩
  rw [ref02_alike.L0_eq]
  simp only [fBin_lss,bindO_s,fCond_b,decide_eq_true_eq,Int.ofNat_lt,show ¬ k < (prodL (li ins)) by omega,if_false]
 | succ d ih =>
  intro k hd hk
  have hk':k < (prodL (li ins)):=by omega
  have w:IntKind.i64.wrap ((k:Int) + 1) = ((k + 1:Nat):Int):=wrap64 (by omega) (by omega)
  obtain ⟨m1,m2⟩:=at_wrap h hs hk'
  obtain ⟨m3,m4⟩:=at_wrap h ht hk'
  have hl:=sy_len h hs hk'
  have z:=sameI_sl (a:=(rowN (li rows) (prodL (li ins)) s k).2.1) (b:=(rowN (li rows) (prodL (li ins)) t k).2.1) (by unfold syR at hl;omega)
  obtain ⟨_,_,u1⟩:=rvec_at (g:=fun t => FV.int .i64 (c t:Int)) (nx_lt h s hs k hk')
  obtain ⟨_,_,u2⟩:=rvec_at (g:=fun t => FV.int .i64 (c t:Int)) (nx_lt h t ht k hk')
  have zero1:∀ x:FV,([x]:List FV)[0]? = some x:=fun _ => rfl
  obtain ⟨b,ih1,ih2⟩:=ih (k + 1) (by omega) (by omega)
  rw [ref02_alike.L0_eq]
  unfold clsV at ih1 ⊢
  simp only [fBin_lss,bindO_s,fCond_b,decide_eq_true_eq,Int.ofNat_lt,hk',if_true,fBin_mul,fBin_add,m1,m2,m3,m4,(next_at h hs hk').1,(next_at h hs hk').2,(next_at h ht hk').1,(next_at h ht hk').2,I_zero,zero1,z,fUn_not,u1,u2,w,fBin_neq,Bool.not_eq_true']
  by_cases g1:li (rowN (li rows) (prodL (li ins)) s k).2.1 = li (rowN (li rows) (prodL (li ins)) t k).2.1
  ·simp only [g1,decide_true,Bool.not_true,Bool.false_eq_true,if_false,reduceCtorEq]
   by_cases g2:c ((nxR (li rows) (prodL (li ins))) s k) = c ((nxR (li rows) (prodL (li ins))) t k)
   ·refine ⟨b,?_,?_⟩
    ·simp only [g2,ne_eq,not_true_eq_false,if_false]
     exact ih1
    ·rw [ih2]
     constructor
     ·intro hq q h1 h2
      by_cases e:q = k
      ·subst e;exact ⟨g1,g2⟩
      ·exact hq q (by omega) h2
     ·intro hq q h1 h2
      exact hq q (by omega) h2
   ·refine ⟨false,?_,?_⟩
    ·rw [if_pos (by omega)]
    ·simp only [Bool.false_eq_true,false_iff]
     exact fun hq => g2 (hq k (Nat.le_refl _) hk').2
  ·refine ⟨false,?_,?_⟩
   ·simp [g1]
   ·simp only [Bool.false_eq_true,false_iff]
    exact fun hq => g1 (hq k (Nat.le_refl _) hk').1
theorem alike_ok {c:Nat → Nat} {s t:Nat} (hs:s < (li sts).length) (ht:t < (li sts).length) :
  ∃ b:Bool,ref02_alike (.agg [.int .i64 ((prodL (li ins)):Int),nextV (li rows),saysV (li rows)]) (.arr (clsV (li sts).length c)) (.int .i64 (s:Int)) (.int .i64 (t:Int)) = some (.bool b) ∧ (b = true ↔ c s = c t ∧ ∀ q,q < (prodL (li ins)) → (syR (li rows) (prodL (li ins))) s q = (syR (li rows) (prodL (li ins))) t q ∧ c ((nxR (li rows) (prodL (li ins))) s q) = c ((nxR (li rows) (prodL (li ins))) t q)):=by
 obtain ⟨_,_,u1⟩:=rvec_at (g:=fun t => FV.int .i64 (c t:Int)) hs
 obtain ⟨_,_,u2⟩:=rvec_at (g:=fun t => FV.int .i64 (c t:Int)) ht
 have zero1:∀ x:FV,([x]:List FV)[0]? = some x:=fun _ => rfl
 obtain ⟨b,h1,h2⟩:=alike_L0 h (c:=c) hs ht _ 0 rfl (Nat.zero_le _)
 rw [ref02_alike.eq]
 unfold clsV at h1 ⊢
 simp only [fIsAgg_agg,List.length_cons,List.length_nil,fCell_zero,fCell_succ,u1,u2,zero1,bindO_s,fBin_neq,fCond_b,decide_eq_true_eq]
 rw [show (0 + 1 + 1 + 1 == 3) = true from rfl,gB_t]
 by_cases g:c s = c t
 ·refine ⟨b,by simp only [g,ne_eq,not_true_eq_false,if_false];exact h1,?_⟩
  rw [h2]
  exact ⟨fun k => ⟨g,fun q hq => k q (Nat.zero_le _) hq⟩,fun k q _ hq => k.2 q hq⟩
 ·refine ⟨false,by rw [if_pos (by omega)],by simp [g]⟩
end
end Go.Proofs.Ytelcbakleaaneaa
end
section
namespace Go.Proofs.Ytelcbakleaaneaa
open Go Go.Proofs.Ytelcbakleaaneaa.VM
theorem heads_len {n:Nat} {l H:List Nat} {r:Nat → Nat → Prop} (hr:∀ x,r x x) (h:Heads l r H) (hl:∀ x ∈ l,x < n):H.length ≤ n:=pigD n H (h.nodup hr) (fun x hx => hl x (h.sub x hx))
section
variable {nm:Str} {sts:Option (List Str)} {start:Int} {ins outs:Option (List TPort)} {rows:Option (List TRow)}
variable (h:OkW (li sts) start (li ins) (li outs) (li rows))
include h
theorem classes_L2 {l H:List Nat} {c F:Nat → Nat} {r:Nat → Nat → Prop} {many i s:Nat} (hs:l[i]? = some s) (hl:∀ x ∈ l,x < (li sts).length) (hH:∀ x ∈ H,x < (li sts).length) (hln:l.length ≤ (li sts).length) (hHn:H.length ≤ (li sts).length)
  (hr:∀ x ∈ H,(c x = c s ∧ ∀ q,q < (prodL (li ins)) → (syR (li rows) (prodL (li ins))) x q = (syR (li rows) (prodL (li ins))) s q ∧ c ((nxR (li rows) (prodL (li ins))) x q) = c ((nxR (li rows) (prodL (li ins))) s q)) ↔ r x s):∀ (d k:Nat),H.length - k = d → k ≤ H.length → (∀ x ∈ H.take k,¬ r x s) →
  (∃ (a x:Nat),H[a]? = some x ∧ r x s ∧ ref02_classes.L2 (.arr (NV l)) (.arr (clsV (li sts).length c)) (.int .i64 (many:Int)) (.int .i64 (i:Int)) (.int .i64 (-1)) (.int .i64 (k:Int)) (.int .i64 ((prodL (li ins)):Int)) (nextV (li rows)) (saysV (li rows)) (clsV (li sts).length c) (clsV (li sts).length F) (NV H) =
   ref02_classes.L4 (.arr (NV l)) (.arr (clsV (li sts).length c)) (.int .i64 (many:Int)) (.int .i64 (i:Int)) (.int .i64 (a:Int)) (.int .i64 ((prodL (li ins)):Int)) (nextV (li rows)) (saysV (li rows)) (clsV (li sts).length c) (clsV (li sts).length F) (NV H)) ∨
  ((∀ x ∈ H,¬ r x s) ∧ ref02_classes.L2 (.arr (NV l)) (.arr (clsV (li sts).length c)) (.int .i64 (many:Int)) (.int .i64 (i:Int)) (.int .i64 (-1)) (.int .i64 (k:Int)) (.int .i64 ((prodL (li ins)):Int)) (nextV (li rows)) (saysV (li rows)) (clsV (li sts).length c) (clsV (li sts).length F) (NV H) =
   ref02_classes.L4 (.arr (NV l)) (.arr (clsV (li sts).length c)) (.int .i64 (many:Int)) (.int .i64 (i:Int)) (.int .i64 (H.length:Int)) (.int .i64 ((prodL (li ins)):Int)) (nextV (li rows)) (saysV (li rows)) (clsV (li sts).length c) (clsV (li sts).length F) (NV (H ++ [s]))):=by
 intro d
 have hn:=h.n1
 obtain ⟨_,_,ls⟩:=NV_get hs
 have neg:((-1:Int) < 0):=by decide
 induction d with
 | zero =>
  intro k hd hk hno
  right
  refine ⟨fun x hx => hno x (by rw [List.take_of_length_le (by omega)];exact hx),?_⟩
  rw [ref02_classes.L2_eq]
  simp only [NV_len,fBin_lss,bindO_s,fCond_b,decide_eq_true_eq,Int.ofNat_lt,show ¬ k < H.length by omega,if_false,neg,if_true,ls,I_zero,show (H.length + 1) * 8 ≤ room by unfold room;omega,decide_true,gB_t]
  rw [show NV H ++ [[FV.int .i64 (s:Int)]] = NV (H ++ [s]) by simp [NV,I]]
 | succ d ih =>
  intro k hd hk hno
  have hk':k < H.length:=by omega
  have hx:H[k]? = some H[k]:=List.getElem?_eq_getElem hk'
  obtain ⟨q1,q2,_⟩:=NV_get hx
  obtain ⟨b,b1,b2⟩:=alike_ok h (c:=c) (hH _ (List.mem_of_getElem? hx)) (hl _ (List.mem_of_getElem? hs))
  rw [hr _ (List.mem_of_getElem? hx)] at b2
  have w:IntKind.i64.wrap ((k:Int) + 1) = ((k + 1:Nat):Int):=wrap64 (by omega) (by omega)
  have e:ref02_classes.L2 (.arr (NV l)) (.arr (clsV (li sts).length c)) (.int .i64 (many:Int)) (.int .i64 (i:Int)) (.int .i64 (-1)) (.int .i64 (k:Int)) (.int .i64 ((prodL (li ins)):Int)) (nextV (li rows)) (saysV (li rows)) (clsV (li sts).length c) (clsV (li sts).length F) (NV H) =
    if b = true then ref02_classes.L2 (.arr (NV l)) (.arr (clsV (li sts).length c)) (.int .i64 (many:Int)) (.int .i64 (i:Int)) (.int .i64 (k:Int)) (.int .i64 ((k + 1:Nat):Int)) (.int .i64 ((prodL (li ins)):Int)) (nextV (li rows)) (saysV (li rows)) (clsV (li sts).length c) (clsV (li sts).length F) (NV H)
    else ref02_classes.L2 (.arr (NV l)) (.arr (clsV (li sts).length c)) (.int .i64 (many:Int)) (.int .i64 (i:Int)) (.int .i64 (-1)) (.int .i64 ((k + 1:Nat):Int)) (.int .i64 ((prodL (li ins)):Int)) (nextV (li rows)) (saysV (li rows)) (clsV (li sts).length c) (clsV (li sts).length F) (NV H):=by
   rw [ref02_classes.L2_eq]
   simp only [NV_len,fBin_lss,bindO_s,fCond_b,decide_eq_true_eq,Int.ofNat_lt,hk',if_true,neg]
   rw [ref02_classes.L3_eq]
   simp only [q1,q2,ls,I_zero,bindO_s,b1,fCond_b,fBin_add,w]
  rw [e]
  cases b with
  | false =>
   have hnr:¬ r H[k] s:=fun g => by have:=b2.2 g;simp at this
   have ih':=ih (k + 1) (by omega) (by omega) (fun x hx2 => by
    rw [List.take_add_one,hx] at hx2
    rcases List.mem_append.1 hx2 with hx2 | hx2
    ·exact hno x hx2
    ·simp at hx2;subst hx2;exact hnr)
   simpa using ih'
  | true =>
   left
   refine ⟨k,H[k],hx,b2.1 rfl,?_⟩
   have nneg:¬ ((k:Int) < 0):=by omega
   rw [if_pos rfl,ref02_classes.L2_eq]
   simp only [NV_len,fBin_lss,bindO_s,fCond_b,decide_eq_true_eq,nneg,if_false,ite_self]
theorem classes_L1 {l:List Nat} {c:Nat → Nat} {j many:Nat} (hl:∀ x ∈ l,x < (li sts).length) (hln:l.length ≤ (li sts).length) (hcl:∀ s ∈ l,∀ k,k < (prodL (li ins)) → (nxR (li rows) (prodL (li ins))) s k ∈ l) (hc:∀ s ∈ l,∀ t ∈ l,c s = c t ↔ EQ (prodL (li ins)) (nxR (li rows) (prodL (li ins))) (syR (li rows) (prodL (li ins))) j s t):∀ (d i:Nat) (F:Nat → Nat) (H:List Nat),l.length - i = d → i ≤ l.length → RInv l (EQ (prodL (li ins)) (nxR (li rows) (prodL (li ins))) (syR (li rows) (prodL (li ins))) (j + 1)) i F H →
  ∃ F' H',RInv l (EQ (prodL (li ins)) (nxR (li rows) (prodL (li ins))) (syR (li rows) (prodL (li ins))) (j + 1)) l.length F' H' ∧ ref02_classes.L1 (.arr (NV l)) (.arr (clsV (li sts).length c)) (.int .i64 (many:Int)) (.int .i64 (i:Int)) (.int .i64 ((prodL (li ins)):Int)) (nextV (li rows)) (saysV (li rows)) (clsV (li sts).length c) (clsV (li sts).length F) (NV H) =
   if H'.length = many then some (.arr (clsV (li sts).length F')) else ref02_classes.L0 (.arr (NV l)) (.int .i64 (H'.length:Int)) (.int .i64 ((prodL (li ins)):Int)) (nextV (li rows)) (saysV (li rows)) (clsV (li sts).length F'):=by
 intro d
 have hn:=h.n1
 induction d with
 | zero =>
  intro i F H hd hi hI
  have:i = l.length:=by omega
  subst this
  refine ⟨F,H,hI,?_⟩
  rw [ref02_classes.L1_eq]
  simp only [fLen_arr,NV_len,fBin_lss,bindO_s,fCond_b,decide_eq_true_eq,Int.ofNat_lt,Nat.lt_irrefl,if_false,fBin_eql,Int.ofNat_inj]
 | succ d ih =>
  intro i F H hd hi hI
  have hi':i < l.length:=by omega
  have hs:l[i]? = some l[i]:=List.getElem?_eq_getElem hi'
  have hsl:=List.mem_of_getElem? hs
  obtain ⟨_,_,ls⟩:=NV_get hs
  have hHd:Heads H (EQ (prodL (li ins)) (nxR (li rows) (prodL (li ins))) (syR (li rows) (prodL (li ins))) (j + 1)) H:=⟨fun x hx => hx,hI.dis,fun s hs => ⟨s,hs,EQ.refl _ _⟩⟩
  have hHn:=heads_len (n:=(li sts).length) (fun x => EQ.refl _ x) hHd (fun x hx => hl x (hI.sub x hx))
  have w:IntKind.i64.wrap ((i:Int) + 1) = ((i + 1:Nat):Int):=wrap64 (by omega) (by omega)
  obtain ⟨u1,_,_⟩:=rvec_at (g:=fun t => FV.int .i64 (F t:Int)) (hl _ hsl)
  have u2:∀ a:Nat,rSet (clsV (li sts).length F) l[i] 0 [.int .i64 (a:Int)] = some (clsV (li sts).length fun t => if t = l[i] then a else F t):=fun a => rvec_set (hl _ hsl) (by simp) (fun j hj _ => by simp [hj])
  have l4:∀ (a:Nat) (H2:List Nat),ref02_classes.L4 (.arr (NV l)) (.arr (clsV (li sts).length c)) (.int .i64 (many:Int)) (.int .i64 (i:Int)) (.int .i64 (a:Int)) (.int .i64 ((prodL (li ins)):Int)) (nextV (li rows)) (saysV (li rows)) (clsV (li sts).length c) (clsV (li sts).length F) (NV H2) =
    ref02_classes.L1 (.arr (NV l)) (.arr (clsV (li sts).length c)) (.int .i64 (many:Int)) (.int .i64 ((i + 1:Nat):Int)) (.int .i64 ((prodL (li ins)):Int)) (nextV (li rows)) (saysV (li rows)) (clsV (li sts).length c) (clsV (li sts).length fun t => if t = l[i] then a else F t) (NV H2):=fun a H2 => by
   rw [ref02_classes.L4_eq]
   simp only [ls,I_zero,bindO_s]
   rw [show rIdx (clsV (li sts).length F) _ = _ from u1]
   simp only [bindO_s,u2,fBin_add,w]
  have hr:∀ x ∈ H,(c x = c l[i] ∧ ∀ q,q < (prodL (li ins)) → (syR (li rows) (prodL (li ins))) x q = (syR (li rows) (prodL (li ins))) l[i] q ∧ c ((nxR (li rows) (prodL (li ins))) x q) = c ((nxR (li rows) (prodL (li ins))) l[i] q)) ↔ EQ (prodL (li ins)) (nxR (li rows) (prodL (li ins))) (syR (li rows) (prodL (li ins))) (j + 1) x l[i]:=fun x hx => by
   have hxl:=hI.sub x hx
   constructor
   ·rintro ⟨g1,g2⟩
    exact ⟨(hc x hxl _ hsl).1 g1,fun q hq => ⟨(g2 q hq).1,(hc _ (hcl x hxl q hq) _ (hcl _ hsl q hq)).1 (g2 q hq).2⟩⟩
   ·rintro ⟨g1,g2⟩
    exact ⟨(hc x hxl _ hsl).2 g1,fun q hq => ⟨(g2 q hq).1,(hc _ (hcl x hxl q hq) _ (hcl _ hsl q hq)).2 (g2 q hq).2⟩⟩
  have e1:ref02_classes.L1 (.arr (NV l)) (.arr (clsV (li sts).length c)) (.int .i64 (many:Int)) (.int .i64 (i:Int)) (.int .i64 ((prodL (li ins)):Int)) (nextV (li rows)) (saysV (li rows)) (clsV (li sts).length c) (clsV (li sts).length F) (NV H) =
    ref02_classes.L2 (.arr (NV l)) (.arr (clsV (li sts).length c)) (.int .i64 (many:Int)) (.int .i64 (i:Int)) (.int .i64 (-1)) (.int .i64 ((0:Nat):Int)) (.int .i64 ((prodL (li ins)):Int)) (nextV (li rows)) (saysV (li rows)) (clsV (li sts).length c) (clsV (li sts).length F) (NV H):=by
   rw [ref02_classes.L1_eq]
   simp only [fLen_arr,NV_len,fBin_lss,bindO_s,fCond_b,decide_eq_true_eq,Int.ofNat_lt,hi',if_true]
   rfl
  rcases classes_L2 h (c:=c) (F:=F) (r:=EQ (prodL (li ins)) (nxR (li rows) (prodL (li ins))) (syR (li rows) (prodL (li ins))) (j + 1)) (many:=many) hs hl (fun x hx => hl x (hI.sub x hx)) hln hHn hr _ 0 rfl (Nat.zero_le _) (by simp) with ⟨a,x,g1,g2,g3⟩ | ⟨g1,g2⟩
  ·obtain ⟨F',H',k1,k2⟩:=ih (i + 1) _ H (by omega) (by omega) (hI.old hs g1 g2)
   exact ⟨F',H',k1,e1.trans (g3.trans ((l4 a H).trans k2))⟩
  ·obtain ⟨F',H',k1,k2⟩:=ih (i + 1) _ (H ++ [l[i]]) (by omega) (by omega) (hI.new (fun x => EQ.refl _ x) (fun g => g.symm) hs g1)
   exact ⟨F',H',k1,e1.trans (g2.trans ((l4 H.length _).trans k2))⟩
theorem classes_L0 {l:List Nat} (hl:∀ x ∈ l,x < (li sts).length) (hln:l.length ≤ (li sts).length) (hcl:∀ s ∈ l,∀ k,k < (prodL (li ins)) → (nxR (li rows) (prodL (li ins))) s k ∈ l):∀ (d j:Nat) (c:Nat → Nat) (Hj:List Nat),(li sts).length - Hj.length = d → (∀ s ∈ l,∀ t ∈ l,c s = c t ↔ EQ (prodL (li ins)) (nxR (li rows) (prodL (li ins))) (syR (li rows) (prodL (li ins))) j s t) → Heads l (EQ (prodL (li ins)) (nxR (li rows) (prodL (li ins))) (syR (li rows) (prodL (li ins))) j) Hj →
  ∃ c',(∀ s ∈ l,∀ t ∈ l,c' s = c' t ↔ Same (prodL (li ins)) (nxR (li rows) (prodL (li ins))) (syR (li rows) (prodL (li ins))) s t) ∧ (∀ s ∈ l,c' s < (li sts).length) ∧ ref02_classes.L0 (.arr (NV l)) (.int .i64 (Hj.length:Int)) (.int .i64 ((prodL (li ins)):Int)) (nextV (li rows)) (saysV (li rows)) (clsV (li sts).length c) = some (.arr (clsV (li sts).length c')):=by
 intro d
 have hn:=h.n1
 induction d using Nat.strongRecOn with
 | ind d ih =>
  intro j c Hj hd hc hH
  obtain ⟨F',H',k1,k2⟩:=classes_L1 h (many:=Hj.length) hl hln hcl hc _ 0 (fun _ => 0) [] rfl (Nat.zero_le _) (RInv.init _ _ _)
  have e0:ref02_classes.L0 (.arr (NV l)) (.int .i64 (Hj.length:Int)) (.int .i64 ((prodL (li ins)):Int)) (nextV (li rows)) (saysV (li rows)) (clsV (li sts).length c) =
    ref02_classes.L1 (.arr (NV l)) (.arr (clsV (li sts).length c)) (.int .i64 (Hj.length:Int)) (.int .i64 ((0:Nat):Int)) (.int .i64 ((prodL (li ins)):Int)) (nextV (li rows)) (saysV (li rows)) (clsV (li sts).length c) (clsV (li sts).length fun _ => 0) (NV []):=by
   rw [ref02_classes.L0_eq]
   simp only [clsV_len,asNat_nat,bindO_s,Nat.le_refl,show (li sts).length * 8 ≤ room by unfold room;omega,decide_true,Bool.and_self,ge_iff_le,gB_t,rep_rvec]
   rfl
  have hH':=k1.heads (Nat.le_refl _)
  have hcls:=k1.cls (fun g => g.symm) (fun g g' => g.trans g') (Nat.le_refl _)
  have hlt:∀ s ∈ l,F' s < (li sts).length:=fun s hs => by
   have h1:=k1.lt s (by rw [List.take_of_length_le (Nat.le_refl _)];exact hs)
   have h2:=heads_len (n:=(li sts).length) (fun x => EQ.refl _ x) hH' hl
   omega
  obtain ⟨g1,g2⟩:=Heads.grow (fun x => EQ.refl j x) (fun g => g.symm) (fun g g' => g.trans g') (fun g => g.symm) (fun g g' => g.trans g') (fun g => g.1) hH hH'
  by_cases g:H'.length = Hj.length
  ·refine ⟨F',fun s hs t ht => ?_,hlt,by rw [e0,k2,if_pos g]⟩
   rw [hcls s hs t ht]
   exact ⟨fun e => same_stable hcl (g2 g) hs ht e,fun e => e _⟩
  ·have h2:=heads_len (n:=(li sts).length) (fun x => EQ.refl _ x) hH' hl
   obtain ⟨c',r1,r2,r3⟩:=ih ((li sts).length - H'.length) (by omega) (j + 1) F' H' rfl hcls hH'
   exact ⟨c',r1,r2,by rw [e0,k2,if_neg g];exact r3⟩
theorem classes_ok {l:List Nat} (hl:∀ x ∈ l,x < (li sts).length) (hln:l.length ≤ (li sts).length) (hcl:∀ s ∈ l,∀ k,k < (prodL (li ins)) → (nxR (li rows) (prodL (li ins))) s k ∈ l) (hne:l ≠ []) :
  ∃ c',(∀ s ∈ l,∀ t ∈ l,c' s = c' t ↔ Same (prodL (li ins)) (nxR (li rows) (prodL (li ins))) (syR (li rows) (prodL (li ins))) s t) ∧ (∀ s ∈ l,c' s < (li sts).length) ∧ ref02_classes (.agg [.int .i64 ((prodL (li ins)):Int),nextV (li rows),saysV (li rows)]) (.arr (NV l)) = some (.arr (clsV (li sts).length c')):=by
 have hn:=h.n1
 have hlen:fLen (nextV (li rows)) = some (.int .i64 ((li rows).length:Int)):=by simp [nextV,fLen]
 obtain ⟨a,l',rfl⟩:∃ a l',l = a :: l':=by
  cases l with
  | nil => exact absurd rfl hne
  | cons a l' => exact ⟨a,l',rfl⟩
 have hH:Heads (a :: l') (EQ (prodL (li ins)) (nxR (li rows) (prodL (li ins))) (syR (li rows) (prodL (li ins))) 0) [a]:=⟨fun x hx => by simp at hx;simp [hx],fun i k x y hi hk _ => by
  have h1:=(List.getElem?_eq_some_iff.1 hi).1
  have h2:=(List.getElem?_eq_some_iff.1 hk).1
  simp at h1 h2;omega,fun s _ => ⟨a,by simp,trivial⟩⟩
 obtain ⟨c',r1,r2,r3⟩:=classes_L0 h hl hln hcl _ 0 (fun _ => 0) [a] rfl (fun _ _ _ _ => ⟨fun _ => trivial,fun _ => rfl⟩) hH
 refine ⟨c',r1,r2,?_⟩
 rw [ref02_classes.eq]
 simp only [fIsAgg_agg,List.length_cons,List.length_nil,fCell_zero,fCell_succ,hlen,bindO_s,size_quo h,asNat_nat,Nat.le_refl,show (li sts).length * 8 ≤ room by unfold room;omega,decide_true,Bool.and_self,ge_iff_le,gB_t,rep_rvec]
 rw [show (0 + 1 + 1 + 1 == 3) = true from rfl,gB_t]
 exact r3
end
end Go.Proofs.Ytelcbakleaaneaa
end
section
namespace Go.Proofs.Ytelcbakleaaneaa
open Go Go.Proofs.Ytelcbakleaaneaa.VM
def plV (n:Nat) (M:List Nat):List (List FV):=rvec n fun v => .int .i64 ((if v ∈ M then pos v M else 0:Nat):Int)
theorem plV_put {n:Nat} {M:List Nat} {v:Nat} (hv:v < n) (g:v ∉ M):rSet (plV n M) v 0 [.int .i64 (M.length:Int)] = some (plV n (M ++ [v])):=by
 refine rvec_set hv ?_ fun j hj _ => ?_
 ·simp [pos_new g]
 ·by_cases g2:j ∈ M
  ·simp [g2,pos_app [v] g2]
  ·simp [g2,hj]
theorem seenN_put {n:Nat} {M:List Nat} {v:Nat} (hv:v < n):rSet (seenN n M) v 0 [.bool true] = some (seenN n (M ++ [v])):=by
 refine rvec_set hv (by simp) fun j hj _ => ?_
 simp [hj]
def rowT (rows:List TRow) (p:Nat) (g:Nat → Nat) (s k:Nat):TRow:=((g (nxR rows p s k):Int),some (syR rows p s k),())
def rowsL (rows:List TRow) (p:Nat) (g:Nat → Nat) (H:List Nat):List TRow:=H.flatMap fun s => (List.range' 0 p).map (rowT rows p g s)
def cpP (l:List TPort):List TPort:=l.map fun q => (q.1,some (li q.2.1),())
section
variable {nm:Str} {sts:Option (List Str)} {start:Int} {ins outs:Option (List TPort)} {rows:Option (List TRow)}
variable (h:OkW (li sts) start (li ins) (li outs) (li rows))
include h
theorem least_L0 {l:List Nat} {c:Nat → Nat} (x2 x3 x4:FV) (hl:∀ x ∈ l,x < (li sts).length) (hln:l.length ≤ (li sts).length) (hc:∀ s ∈ l,c s < (li sts).length):∀ (d i:Nat),l.length - i = d → i ≤ l.length →
  ref02_least.L0 (.arr (NV l)) (.int .i64 (i:Int)) x2 x3 x4 (clsV (li sts).length c) (seenN (li sts).length ((hd c (l.take i)).map c)) (plV (li sts).length ((hd c (l.take i)).map c)) (NV (hd c (l.take i))) =
   ref02_least.L1 (.arr (NV l)) (.int .i64 0) x2 x3 x4 (clsV (li sts).length c) (seenN (li sts).length ((hd c l).map c)) (plV (li sts).length ((hd c l).map c)) (NV (hd c l)):=by
 intro d
 have hn:=h.n1
 induction d with
 | zero =>
  intro i hd' hi
  have:i = l.length:=by omega
  subst this
  rw [ref02_least.L0_eq,List.take_of_length_le (Nat.le_refl _)]
  simp only [fLen_arr,NV_len,fBin_lss,bindO_s,fCond_b,decide_eq_true_eq,Int.ofNat_lt,Nat.lt_irrefl,if_false]
 | succ d ih =>
  intro i hd' hi
  have hi':i < l.length:=by omega
  have hs:l[i]? = some l[i]:=List.getElem?_eq_getElem hi'
  obtain ⟨_,_,ls⟩:=NV_get hs
  have hsl:=List.mem_of_getElem? hs
  have w:IntKind.i64.wrap ((i:Int) + 1) = ((i + 1:Nat):Int):=wrap64 (by omega) (by omega)
  have ih':=ih (i + 1) (by omega) (by omega)
  have ht:l.take (i + 1) = l.take i ++ [l[i]]:=by rw [List.take_add_one,hs];rfl
  rw [ht,hd_snoc] at ih'
  have hHn:(hd c (l.take i)).length ≤ (li sts).length:=by
   have:=hd_len (c:=c) (l.take i) []
   simp only [List.length_nil,Nat.zero_add,List.length_take] at this
   unfold hd;omega
  obtain ⟨u1,u2,_⟩:=rvec_at (g:=fun t => FV.int .i64 (c t:Int)) (hl _ hsl)
  obtain ⟨v1,v2,_⟩:=rvec_at (g:=fun v => FV.bool (decide (v ∈ (hd c (l.take i)).map c))) (hc _ hsl)
  obtain ⟨z1,_,_⟩:=rvec_at (g:=fun v => FV.int .i64 ((if v ∈ (hd c (l.take i)).map c then pos v ((hd c (l.take i)).map c) else 0:Nat):Int)) (hc _ hsl)
  rw [ref02_least.L0_eq]
  simp only [fLen_arr,NV_len,fBin_lss,bindO_s,fCond_b,decide_eq_true_eq,Int.ofNat_lt,hi',if_true,ls,I_zero]
  rw [show rIdx (clsV (li sts).length c) _ = _ from u1]
  simp only [bindO_s]
  rw [show rGet (clsV (li sts).length c) _ _ = _ from u2]
  simp only [bindO_s]
  rw [show rIdx (seenN (li sts).length ((hd c (l.take i)).map c)) _ = _ from v1]
  simp only [bindO_s]
  rw [show rGet (seenN (li sts).length ((hd c (l.take i)).map c)) _ _ = _ from v2]
  by_cases g:c l[i] ∈ (hd c (l.take i)).map c
  ·have e:addC c (hd c (l.take i)) l[i] = hd c (l.take i):=by unfold addC;rw [if_pos g]
   rw [e] at ih'
   simp only [bindO_s,g,decide_true,fUn_not,Bool.not_true,fCond_b,Bool.false_eq_true,if_false,fBin_add,w]
   exact ih'
  ·have e:addC c (hd c (l.take i)) l[i] = hd c (l.take i) ++ [l[i]]:=by unfold addC;rw [if_neg g]
   rw [e] at ih'
   have p1:=plV_put (n:=(li sts).length) (hc _ hsl) g
   rw [List.length_map] at p1
   have p2:=seenN_put (n:=(li sts).length) (M:=(hd c (l.take i)).map c) (hc _ hsl)
   simp only [bindO_s,g,decide_false,fUn_not,Bool.not_false,fCond_b,if_true,p2]
   rw [show rIdx (plV (li sts).length ((hd c (l.take i)).map c)) _ = _ from z1]
   simp only [bindO_s,p1,show ((hd c (l.take i)).length + 1) * 8 ≤ room by unfold room;omega,decide_true,gB_t,fBin_add,w]
   rw [show NV (hd c (l.take i)) ++ [[FV.int .i64 (l[i]:Int)]] = NV (hd c (l.take i) ++ [l[i]]) by simp [NV,I]]
   rw [List.map_append,List.map_cons,List.map_nil] at ih'
   exact ih'
theorem least_L1 {l:List Nat} {c:Nat → Nat} {M:List Nat} (x2 x3 x4:FV) (r6 r8:List (List FV)) (hl:∀ x ∈ l,x < (li sts).length) (hln:l.length ≤ (li sts).length) (hnd:l.Nodup) (hc:∀ s ∈ l,c s < (li sts).length) (hM:∀ s ∈ l,c s ∈ M):∀ (d i:Nat),l.length - i = d → i ≤ l.length →
  ref02_least.L1 (.arr (NV l)) (.int .i64 (i:Int)) x2 x3 x4 (clsV (li sts).length fun t => if t ∈ l.take i then pos (c t) M else c t) r6 (plV (li sts).length M) r8 = some (.tup [.arr r8,.arr (clsV (li sts).length fun t => if t ∈ l then pos (c t) M else c t)]):=by
 intro d
 have hn:=h.n1
 induction d with
 | zero =>
  intro i hd' hi
  have:i = l.length:=by omega
  subst this
  rw [ref02_least.L1_eq,List.take_of_length_le (Nat.le_refl _)]
  simp only [fLen_arr,NV_len,fBin_lss,bindO_s,fCond_b,decide_eq_true_eq,Int.ofNat_lt,Nat.lt_irrefl,if_false]
 | succ d ih =>
  intro i hd' hi
  have hi':i < l.length:=by omega
  have hs:l[i]? = some l[i]:=List.getElem?_eq_getElem hi'
  obtain ⟨_,_,ls⟩:=NV_get hs
  have hsl:=List.mem_of_getElem? hs
  have w:IntKind.i64.wrap ((i:Int) + 1) = ((i + 1:Nat):Int):=wrap64 (by omega) (by omega)
  have ih':=ih (i + 1) (by omega) (by omega)
  have ht:l.take (i + 1) = l.take i ++ [l[i]]:=by rw [List.take_add_one,hs];rfl
  have hnt:l[i] ∉ l.take i:=by
   intro g
   obtain ⟨j,hj⟩:=List.getElem?_of_mem g
   have hj2:=(List.getElem?_eq_some_iff.1 hj).1
   simp only [List.length_take] at hj2
   rw [List.getElem?_take,if_pos (by omega)] at hj
   have hj3:j < l.length:=by omega
   rw [List.getElem?_eq_getElem hj3] at hj
   have:=(List.getElem_inj hnd).1 (Option.some.inj hj)
   omega
  obtain ⟨u1,u2,_⟩:=rvec_at (g:=fun t => FV.int .i64 ((if t ∈ l.take i then pos (c t) M else c t:Nat):Int)) (hl _ hsl)
  simp only [hnt,if_false] at u2
  obtain ⟨z1,z2,_⟩:=rvec_at (g:=fun v => FV.int .i64 ((if v ∈ M then pos v M else 0:Nat):Int)) (hc _ hsl)
  simp only [hM _ hsl,if_true] at z2
  have u3:rSet (clsV (li sts).length fun t => if t ∈ l.take i then pos (c t) M else c t) l[i] 0 [.int .i64 (pos (c l[i]) M:Int)] = some (clsV (li sts).length fun t => if t ∈ l.take (i + 1) then pos (c t) M else c t):=by
   refine rvec_set (hl _ hsl) ?_ fun j hj _ => ?_
   ·simp only [ht,List.mem_append,List.mem_singleton,or_true,if_true]
   ·simp only [ht,List.mem_append,List.mem_singleton,hj,or_false]
  rw [ref02_least.L1_eq]
  simp only [fLen_arr,NV_len,fBin_lss,bindO_s,fCond_b,decide_eq_true_eq,Int.ofNat_lt,hi',if_true,ls,I_zero]
  rw [show rIdx (clsV (li sts).length fun t => if t ∈ l.take i then pos (c t) M else c t) _ = _ from u1]
  simp only [bindO_s]
  rw [show rGet (clsV (li sts).length fun t => if t ∈ l.take i then pos (c t) M else c t) _ _ = _ from u2]
  simp only [bindO_s]
  rw [show rIdx (plV (li sts).length M) _ = _ from z1]
  simp only [bindO_s]
  rw [show rGet (plV (li sts).length M) _ _ = _ from z2]
  simp only [bindO_s,u3,fBin_add,w]
  exact ih'
theorem rowsOf_L1 {H:List Nat} {g:Nat → Nat} {i s:Nat} (hs:H[i]? = some s) (hH:∀ x ∈ H,x < (li sts).length) (hHn:H.length ≤ (li sts).length):∀ (d k:Nat) (acc:List TRow),(prodL (li ins)) - k = d → k ≤ (prodL (li ins)) → acc.length = i * (prodL (li ins)) + k →
  ref02_rowsOf.L1 (.arr (NV H)) (.arr (clsV (li sts).length g)) (.int .i64 (i:Int)) (.int .i64 (k:Int)) (.int .i64 ((prodL (li ins)):Int)) (nextV (li rows)) (saysV (li rows)) (acc.map RW) =
   ref02_rowsOf.L0 (.arr (NV H)) (.arr (clsV (li sts).length g)) (.int .i64 ((i + 1:Nat):Int)) (.int .i64 ((prodL (li ins)):Int)) (nextV (li rows)) (saysV (li rows)) ((acc ++ (List.range' k d).map (rowT (li rows) (prodL (li ins)) g s)).map RW):=by
 intro d
 have hp4:=p_le h
 have hn:=h.n1
 have hi:=(List.getElem?_eq_some_iff.1 hs).1
 have hsn:=hH s (List.mem_of_getElem? hs)
 obtain ⟨_,_,ls⟩:=NV_get hs
 induction d with
 | zero =>
  intro k acc hd hk ha
  have w:IntKind.i64.wrap ((i:Int) + 1) = ((i + 1:Nat):Int):=wrap64 (by omega) (by omega)
  rw [ref02_rowsOf.L1_eq]
  simp only [fBin_lss,bindO_s,fCond_b,decide_eq_true_eq,Int.ofNat_lt,show ¬ k < (prodL (li ins)) by omega,if_false,fBin_add,w,List.range'_zero,List.map_nil,List.append_nil]
 | succ d ih =>
  intro k acc hd hk ha
  have hk':k < (prodL (li ins)):=by omega
  have hsm:=h.small
  have hil:=num_lt (SA:=(li sts).length) (SB:=(prodL (li ins))) (a:=i) (b:=k) (by omega) hk'
  have w:IntKind.i64.wrap ((k:Int) + 1) = ((k + 1:Nat):Int):=wrap64 (by omega) (by omega)
  obtain ⟨m1,m2⟩:=at_wrap h hsn hk'
  obtain ⟨_,_,u1⟩:=rvec_at (g:=fun t => FV.int .i64 (g t:Int)) (nx_lt h s hsn k hk')
  have hy:=sy_len h hsn hk'
  have zero1:∀ x:FV,([x]:List FV)[0]? = some x:=fun _ => rfl
  have ih':=ih (k + 1) (acc ++ [rowT (li rows) (prodL (li ins)) g s k]) (by omega) (by omega) (by simp [ha];omega)
  rw [ref02_rowsOf.L1_eq]
  unfold clsV at ih' ⊢
  unfold syR at hy
  simp only [fBin_lss,bindO_s,fCond_b,decide_eq_true_eq,Int.ofNat_lt,hk',if_true,ls,I_zero,fBin_mul,fBin_add,m1,m2,(next_at h hsn hk').1,(next_at h hsn hk').2,u1,zero1,asRows_sl,rowsSz_I,gB_t,List.length_map,ha,show (0 + (li (rowN (li rows) (prodL (li ins)) s k).2.1).length) * 8 ≤ room by unfold room;omega,show (i * (prodL (li ins)) + k + 1) * 32 ≤ room by unfold room;omega,decide_true,List.nil_append,w]
  rw [show acc.map RW ++ [[FV.int .i64 (g ((nxR (li rows) (prodL (li ins))) s k):Int),.arr ((li (rowN (li rows) (prodL (li ins)) s k).2.1).map I)]] = (acc ++ [rowT (li rows) (prodL (li ins)) g s k]).map RW by simp [RW,rowT,sl,syR]]
  rw [ih']
  simp [List.range'_succ]
theorem rowsOf_L0 {H:List Nat} {g:Nat → Nat} (hH:∀ x ∈ H,x < (li sts).length) (hHn:H.length ≤ (li sts).length):∀ (t:List Nat) (i:Nat) (acc:List TRow),H.drop i = t → acc.length = i * (prodL (li ins)) →
  ref02_rowsOf.L0 (.arr (NV H)) (.arr (clsV (li sts).length g)) (.int .i64 (i:Int)) (.int .i64 ((prodL (li ins)):Int)) (nextV (li rows)) (saysV (li rows)) (acc.map RW) = some (.arr ((acc ++ rowsL (li rows) (prodL (li ins)) g t).map RW)):=by
 intro t
 induction t with
 | nil =>
  intro i acc hd ha
  rw [ref02_rowsOf.L0_eq]
  simp only [fLen_arr,NV_len,fBin_lss,bindO_s,fCond_b,decide_eq_true_eq,Int.ofNat_lt,drop_nil hd,if_false,rowsL,List.flatMap_nil,List.append_nil]
 | cons s t ih =>
  intro i acc hd ha
  obtain ⟨hi,hs,hs'⟩:=drop_cons hd
  have h1:=rowsOf_L1 h (g:=g) hs hH hHn _ 0 acc rfl (Nat.zero_le _) (by omega)
  have ih':=ih (i + 1) (acc ++ (List.range' 0 ((prodL (li ins)) - 0)).map (rowT (li rows) (prodL (li ins)) g s)) hs' (by simp [ha,Nat.add_mul])
  rw [ref02_rowsOf.L0_eq]
  simp only [fLen_arr,NV_len,fBin_lss,bindO_s,fCond_b,decide_eq_true_eq,Int.ofNat_lt,hi,if_true]
  refine Eq.trans h1 (Eq.trans ih' ?_)
  simp [rowsL]
theorem rowsOf_ok {H:List Nat} {g:Nat → Nat} (hH:∀ x ∈ H,x < (li sts).length) (hHn:H.length ≤ (li sts).length) :
  ref02_rowsOf (.agg [.int .i64 ((prodL (li ins)):Int),nextV (li rows),saysV (li rows)]) (.arr (NV H)) (.arr (clsV (li sts).length g)) = some (.arr ((rowsL (li rows) (prodL (li ins)) g H).map RW)):=by
 rw [ref02_rowsOf.eq]
 simp only [fIsAgg_agg,List.length_cons,List.length_nil,fCell_zero,fCell_succ]
 rw [show (0 + 1 + 1 + 1 == 3) = true from rfl,gB_t]
 simpa using rowsOf_L0 h (g:=g) hH hHn H 0 [] rfl (by simp)
theorem reached:∃ l,l = bfs (prodL (li ins)) (nxR (li rows) (prodL (li ins))) addR (li sts).length 0 [start.toNat] ∧ l.Nodup ∧ (∀ x ∈ l,x < (li sts).length) ∧ l.length ≤ (li sts).length ∧ (∀ s ∈ l,∀ k,k < (prodL (li ins)) → (nxR (li rows) (prodL (li ins))) s k ∈ l) ∧ [start.toNat] <+: l:=by
 have hst:=h.st
 have hsn:start.toNat < (li sts).length:=by omega
 obtain ⟨j,g1,g2,g3⟩:=bfs_good (nx_lt h) (li sts).length 0 [start.toNat] (by omega) ⟨by simp,by simp [hsn],by simp,by simp⟩
 refine ⟨_,rfl,g1.nd,g1.lt,g1.len,fun s hs k hk => g1.cl s ?_ k hk,g3⟩
 rw [g2,List.take_of_length_le (Nat.le_refl _)]
 exact hs
theorem rowsL_congr {g g':Nat → Nat} {p:Nat} {rs:List TRow}:∀ {H:List Nat},(∀ s ∈ H,∀ k,k < p → g (nxR rs p s k) = g' (nxR rs p s k)) → rowsL rs p g H = rowsL rs p g' H:=by
 intro H hg
 unfold rowsL
 simp only [List.flatMap]
 congr 1
 refine List.map_congr_left fun s hs => List.map_congr_left fun k hk => ?_
 have:=List.mem_range'.1 hk
 unfold rowT
 rw [hg s hs k (by omega)]
end
end Go.Proofs.Ytelcbakleaaneaa
end
section
namespace Go.Proofs.Ytelcbakleaaneaa
open Go Go.Proofs.Ytelcbakleaaneaa.VM
def BV (ns:List Int):List (List FV):=ns.map fun n => [FV.int .u8 (IntKind.u8.wrap n)]
def kT (ns:List Int):Str:=ns.map fun n => UInt8.ofNat (IntKind.u8.wrap n).toNat
theorem bytes_BV:∀ ns:List Int,bytes? (BV ns) = some (kT ns)
 | [] => rfl
 | n :: ns => by
  have:=bytes_BV ns
  simp only [BV,kT,List.map_cons,bytes?,byte?,bindO_s] at this ⊢
  rw [this];rfl
theorem BV_len (ns:List Int):(BV ns).length = ns.length:=by simp [BV]
theorem wrap8 {n:Int} (h1:0 ≤ n) (h2:n < 256):IntKind.u8.wrap n = n:=by
 simp [IntKind.wrap,IntKind.bits,IntKind.signed]
 omega
theorem kT_inj:∀ {a b:List Int},(∀ x ∈ a,0 ≤ x ∧ x < 256) → (∀ x ∈ b,0 ≤ x ∧ x < 256) → kT a = kT b → a = b
 | [],[],_,_,_ => rfl
 | [],y :: b,_,_,h => by simp [kT] at h
 | x :: a,[],_,_,h => by simp [kT] at h
 | x :: a,y :: b,ha,hb,h => by
  simp only [kT,List.map_cons,List.cons.injEq] at h
  have hx:=ha x (by simp)
  have hy:=hb y (by simp)
  rw [wrap8 hx.1 hx.2,wrap8 hy.1 hy.2] at h
  have e:x = y:=by
   have:=congrArg UInt8.toNat h.1
   simp only [UInt8.toNat_ofNat'] at this
   omega
  rw [e,kT_inj (fun z hz => ha z (by simp [hz])) (fun z hz => hb z (by simp [hz])) h.2]
def e2 (c:Nat):List Int:=[((c % 256:Nat):Int),((c / 256:Nat):Int)]
theorem e2_len (c:Nat):(e2 c).length = 2:=rfl
theorem e2_small {c:Nat} (h:c < 65536):∀ x ∈ e2 c,0 ≤ x ∧ x < 256:=by
 intro x hx
 simp only [e2,List.mem_cons,List.not_mem_nil,or_false] at hx
 omega
theorem e2_inj {a b:Nat} (h:e2 a = e2 b):a = b:=by
 simp only [e2,List.cons.injEq] at h
 omega
theorem e2_BV (c:Nat):[[FV.int .u8 (IntKind.u8.wrap (c:Int))],[FV.int .u8 (IntKind.u8.wrap ((c:Int).fdiv (2 ^ (min (Int.toNat 8) IntKind.i64.bits))))]] = BV (e2 c):=by
 have e:(c:Int).fdiv (2 ^ (min (Int.toNat 8) IntKind.i64.bits)) = ((c / 256:Nat):Int):=by
  have:(2:Int) ^ (min (Int.toNat 8) IntKind.i64.bits) = 256:=by decide
  rw [this,Int.fdiv_eq_ediv_of_nonneg _ (by decide)]
  omega
 have w:IntKind.u8.wrap (c:Int) = IntKind.u8.wrap ((c % 256:Nat):Int):=by
  simp [IntKind.wrap,IntKind.bits,IntKind.signed]
 rw [e,w]
 simp [BV,e2]
def kI (c:Nat → Nat) (nx:Nat → Nat → Nat) (sy:Nat → Nat → List Int) (q k d:Nat):List Int:=(List.range' k d).flatMap fun k => sy q k ++ e2 (c (nx q k))
theorem kI_inj {c:Nat → Nat} {nx:Nat → Nat → Nat} {sy:Nat → Nat → List Int} {p o x q:Nat} (hlen:∀ k,k < p → (sy x k).length = o ∧ (sy q k).length = o):∀ (d k:Nat),k + d ≤ p → (kI c nx sy x k d = kI c nx sy q k d ↔ ∀ i,k ≤ i → i < k + d → sy x i = sy q i ∧ c (nx x i) = c (nx q i))
 | 0,k,_ => by
  simp only [kI,List.range'_zero,List.flatMap_nil,true_iff]
  intro i h1 h2;omega
 | d + 1,k,hk => by
  have ih:=kI_inj (c:=c) (nx:=nx) (sy:=sy) hlen d (k + 1) (by omega)
  have hl:=hlen k (by omega)
  simp only [kI,List.range'_succ,List.flatMap_cons] at ih ⊢
  constructor
  ·intro h i h1 h2
   have h3:=List.append_inj h (by simp [hl,e2_len])
   have h4:=List.append_inj h3.1 (by simp [hl])
   by_cases g:i = k
   ·subst g
    exact ⟨h4.1,e2_inj h4.2⟩
   ·exact ih.1 h3.2 i (by omega) (by omega)
  ·intro h
   have h0:=h k (Nat.le_refl _) (by omega)
   rw [h0.1,h0.2,ih.2 fun i h1 h2 => h i (by omega) (by omega)]
theorem fitGo_small:∀ (ps:List TPort) (vs:List Int),ps.length = vs.length → fitGo ps vs = true → Lens ps → ∀ v ∈ vs,0 ≤ v ∧ v < 64
 | _,[],_,_,_ => by simp
 | [],v :: vs,h,_,_ => by simp at h
 | q :: ps,v :: vs,h,hf,hL => by
  simp only [fitGo,Bool.and_eq_true,decide_eq_true_eq] at hf
  have hq:=hL q (by simp)
  intro x hx
  rcases List.mem_cons.1 hx with rfl | hx
  ·omega
  ·exact fitGo_small ps vs (by simpa using h) hf.2 (fun y hy => hL y (by simp [hy])) x hx
section
variable {nm:Str} {sts:Option (List Str)} {start:Int} {ins outs:Option (List TPort)} {rows:Option (List TRow)}
variable (h:OkW (li sts) start (li ins) (li outs) (li rows))
include h
theorem sy_fit {s k:Nat} (hs:s < (li sts).length) (hk:k < (prodL (li ins))):((syR (li rows) (prodL (li ins))) s k).length = (li outs).length ∧ ∀ v ∈ (syR (li rows) (prodL (li ins))) s k,0 ≤ v ∧ v < 64:=by
 obtain ⟨g,_⟩:=rowW_get h rfl hs hk
 have:=h.rok _ (List.mem_of_getElem? g)
 simp only [rowOk,fitP,Bool.and_eq_true,decide_eq_true_eq] at this
 exact ⟨this.2.1.symm,fitGo_small _ _ this.2.1 this.2.2 h.olens⟩
omit h in
theorem cut_rows {a b:Nat} (hab:a ≤ b) (hb:b ≤ (li rows).length) (hne:1 ≤ (li rows).length):fCut 2 (sl RW rows) (some (.int .i64 (a:Int))) (some (.int .i64 (b:Int))) = some (.arr ((((li rows).map RW).take b).drop a)):=by
 cases rows with
 | none => simp [li] at hne
 | some w =>
  simp only [li] at hb
  simp only [sl,fCut,rowsSz_map (fun r => RW_len r),gB_t,List.length_map,cut?,asNat_nat,bindO_s,hab,hb,and_self,if_true,li]
def keyN (c:Nat → Nat) (nx:Nat → Nat → Nat) (sy:Nat → Nat → List Int) (p q:Nat):Str:=kT (e2 (c q) ++ kI c nx sy q 0 p)
theorem kI_small {c:Nat → Nat} (hc:∀ s,s < (li sts).length → c s < 65536) {q:Nat} (hq:q < (li sts).length):∀ x ∈ e2 (c q) ++ kI c (nxR (li rows) (prodL (li ins))) (syR (li rows) (prodL (li ins))) q 0 (prodL (li ins)),0 ≤ x ∧ x < 256:=by
 intro x hx
 rcases List.mem_append.1 hx with hx | hx
 ·exact e2_small (hc q hq) x hx
 ·obtain ⟨k,hk,hx⟩:=List.mem_flatMap.1 hx
  have hk:=List.mem_range'.1 hk
  have hk':k < (prodL (li ins)):=by omega
  rcases List.mem_append.1 hx with hx | hx
  ·have:=(sy_fit h hq hk').2 x hx
   omega
  ·exact e2_small (hc _ (nx_lt h q hq k hk')) x hx
theorem keyN_iff {c:Nat → Nat} (hc:∀ s,s < (li sts).length → c s < 65536) {j:Nat} (hcls:∀ s,s < (li sts).length → ∀ t,t < (li sts).length → (c s = c t ↔ EQ (prodL (li ins)) (nxR (li rows) (prodL (li ins))) (syR (li rows) (prodL (li ins))) j s t)) {x q:Nat} (hx:x < (li sts).length) (hq:q < (li sts).length):keyN c (nxR (li rows) (prodL (li ins))) (syR (li rows) (prodL (li ins))) (prodL (li ins)) x = keyN c (nxR (li rows) (prodL (li ins))) (syR (li rows) (prodL (li ins))) (prodL (li ins)) q ↔ EQ (prodL (li ins)) (nxR (li rows) (prodL (li ins))) (syR (li rows) (prodL (li ins))) (j + 1) x q:=by
 have hk:=kI_inj (c:=c) (nx:=(nxR (li rows) (prodL (li ins)))) (sy:=(syR (li rows) (prodL (li ins)))) (p:=(prodL (li ins))) (o:=(li outs).length) (x:=x) (q:=q) (fun k hk => ⟨(sy_fit h hx hk).1,(sy_fit h hq hk).1⟩) (prodL (li ins)) 0 (by omega)
 constructor
 ·intro e
  have e:=List.append_inj (kT_inj (kI_small h hc hx) (kI_small h hc hq) e) rfl
  refine ⟨(hcls x hx q hq).1 (e2_inj e.1),fun k hk' => ?_⟩
  have:=hk.1 e.2 k (Nat.zero_le _) (by omega)
  exact ⟨this.1,(hcls _ (nx_lt h x hx k hk') _ (nx_lt h q hq k hk')).1 this.2⟩
 ·intro e
  have e1:=(hcls x hx q hq).2 e.1
  have e3:=hk.2 fun k _ hk' => ⟨(e.2 k (by omega)).1,(hcls _ (nx_lt h x hx k (by omega)) _ (nx_lt h q hq k (by omega))).2 (e.2 k (by omega)).2⟩
  unfold keyN
  rw [e1,e3]
theorem mcl_L3 {c:Nat → Nat} {q k:Nat} (hk:k < (prodL (li ins))) (hq:q < (li sts).length) (x1 x2 x3 x4 x5 x6 x11 x12 x13 x14 x15 x16:FV) (es:List (FV × FV)) (r19:List (List FV)):∀ (t:List Int) (m:Nat) (acc:List Int),((syR (li rows) (prodL (li ins))) q k).drop m = t → acc.length + t.length ≤ 1000000 →
  mach_classes.L3 (.int .i64 ((prodL (li ins)):Int)) x1 x2 x3 x4 x5 x6 (.int .i64 (k:Int)) (sl I (rowN (li rows) (prodL (li ins)) q k).2.1) (.int .i64 (((syR (li rows) (prodL (li ins))) q k).length:Int)) (.int .i64 (m:Int)) x11 x12 x13 x14 x15 x16 (clsV (li sts).length c) es r19 (.int .i64 ((nxR (li rows) (prodL (li ins))) q k:Int)) (sl I (rowN (li rows) (prodL (li ins)) q k).2.1) (BV acc) =
   mach_classes.L2 (.int .i64 ((prodL (li ins)):Int)) x1 x2 x3 x4 x5 x6 (.int .i64 ((k + 1:Nat):Int)) x11 x12 x13 x14 x15 x16 (clsV (li sts).length c) es r19 (BV (acc ++ t ++ e2 (c ((nxR (li rows) (prodL (li ins))) q k)))):=by
 intro t
 have hp4:=p_le h
 have hy:=sy_len h hq hk
 induction t with
 | nil =>
  intro m acc hd ha
  have w:IntKind.i64.wrap ((k:Int) + 1) = ((k + 1:Nat):Int):=wrap64 (by omega) (by omega)
  obtain ⟨u1,u2,_⟩:=rvec_at (g:=fun t => FV.int .i64 (c t:Int)) (nx_lt h q hq k hk)
  have sh:fBin .shr (.int .i64 (c ((nxR (li rows) (prodL (li ins))) q k):Int)) (.int .u64 8) = some (.int .i64 ((c ((nxR (li rows) (prodL (li ins))) q k):Int).fdiv (2 ^ (min (Int.toNat 8) IntKind.i64.bits)))):=rfl
  simp only [List.length_nil,Nat.add_zero] at ha
  rw [mach_classes.L3_eq]
  simp only [fBin_lss,bindO_s,fCond_b,decide_eq_true_eq,Int.ofNat_lt,drop_nil hd,if_false]
  rw [show rIdx (clsV (li sts).length c) _ = _ from u1]
  simp only [bindO_s]
  rw [show rGet (clsV (li sts).length c) _ _ = _ from u2]
  simp only [bindO_s,fConvInt_int,sh,BV_len,show (acc.length + 2) * 1 ≤ room by unfold room;omega,decide_true,gB_t,fBin_add,w]
  rw [show BV acc ++ [[FV.int .u8 (IntKind.u8.wrap (c ((nxR (li rows) (prodL (li ins))) q k):Int))],[FV.int .u8 (IntKind.u8.wrap ((c ((nxR (li rows) (prodL (li ins))) q k):Int).fdiv (2 ^ (min (Int.toNat 8) IntKind.i64.bits))))]] = BV (acc ++ [] ++ e2 (c ((nxR (li rows) (prodL (li ins))) q k))) by rw [← List.singleton_append (l:=[[FV.int .u8 _]])];rw [List.singleton_append,e2_BV];simp [BV]]
 | cons v t ih =>
  intro m acc hd ha
  obtain ⟨hm,hn,hs⟩:=drop_cons hd
  have w:IntKind.i64.wrap ((m:Int) + 1) = ((m + 1:Nat):Int):=wrap64 (by omega) (by omega)
  simp only [List.length_cons] at ha
  have ih':=ih (m + 1) (acc ++ [v]) hs (by simp;omega)
  have hn2:(li (rowN (li rows) (prodL (li ins)) q k).2.1)[m]? = some v:=hn
  rw [mach_classes.L3_eq]
  simp only [fBin_lss,bindO_s,fCond_b,decide_eq_true_eq,Int.ofNat_lt,hm,if_true,idx_sl hn2 (I_len _),I_zero,fConvInt_int,BV_len,show (acc.length + 1) * 1 ≤ room by unfold room;omega,decide_true,gB_t,fBin_add,w]
  rw [show BV acc ++ [[FV.int .u8 (IntKind.u8.wrap v)]] = BV (acc ++ [v]) by simp [BV]]
  rw [ih']
  simp
def rowsCut (rows:List TRow) (p q:Nat):List (List FV):=((rows.map RW).take ((q + 1) * p)).drop (q * p)
theorem cut_get {q k:Nat} (hq:q < (li sts).length) (hk:k < (prodL (li ins))):fIdxC 2 (.arr (rowsCut (li rows) (prodL (li ins)) q)) (.int .i64 (k:Int)) = some (RW (rowN (li rows) (prodL (li ins)) q k)):=by
 obtain ⟨g,_⟩:=rowW_get h rfl hq hk
 refine idx_arr ?_ (RW_len _)
 unfold rowsCut
 rw [List.getElem?_drop,List.getElem?_take,if_pos (by rw [Nat.add_mul];omega),List.getElem?_map,g]
 rfl
theorem cut_len {q:Nat} (hq:q < (li sts).length):(rowsCut (li rows) (prodL (li ins)) q).length = (prodL (li ins)):=by
 have h1:(q + 1) * (prodL (li ins)) ≤ (li sts).length * (prodL (li ins)):=Nat.mul_le_mul_right _ hq
 have h2:=h.rlen
 unfold rowsCut
 rw [List.length_drop,List.length_take,List.length_map,h2,Nat.min_eq_left h1,Nat.add_mul]
 omega
theorem row_nxt {q k:Nat} (hq:q < (li sts).length) (hk:k < (prodL (li ins))):RW (rowN (li rows) (prodL (li ins)) q k) = [.int .i64 ((nxR (li rows) (prodL (li ins))) q k:Int),sl I (rowN (li rows) (prodL (li ins)) q k).2.1]:=by
 obtain ⟨_,_,_,h1,_⟩:=rowW_get h rfl hq hk
 unfold nxR RW
 rw [Int.toNat_of_nonneg h1]
theorem mcl_L2 {c:Nat → Nat} {q:Nat} (hq:q < (li sts).length) (x1 x2 x3 x4 x11 x12 x13 x14 x15 x16:FV) (es:List (FV × FV)) (r19:List (List FV)):∀ (d k:Nat) (acc:List Int),(prodL (li ins)) - k = d → k ≤ (prodL (li ins)) → acc.length ≤ 10 + 10 * k →
  mach_classes.L2 (.int .i64 ((prodL (li ins)):Int)) x1 x2 x3 x4 (.arr (rowsCut (li rows) (prodL (li ins)) q)) (.int .i64 ((prodL (li ins)):Int)) (.int .i64 (k:Int)) x11 x12 x13 x14 x15 x16 (clsV (li sts).length c) es r19 (BV acc) =
   mach_classes.L2 (.int .i64 ((prodL (li ins)):Int)) x1 x2 x3 x4 (.arr (rowsCut (li rows) (prodL (li ins)) q)) (.int .i64 ((prodL (li ins)):Int)) (.int .i64 ((prodL (li ins)):Int)) x11 x12 x13 x14 x15 x16 (clsV (li sts).length c) es r19 (BV (acc ++ kI c (nxR (li rows) (prodL (li ins))) (syR (li rows) (prodL (li ins))) q k d)):=by
 intro d
 have hp4:=p_le h
 induction d with
 | zero =>
  intro k acc hd hk ha
  have:k = (prodL (li ins)):=by omega
  subst this
  simp [kI]
 | succ d ih =>
  intro k acc hd hk ha
  have hk':k < (prodL (li ins)):=by omega
  have hy:=sy_len h hq hk'
  have h3:=mcl_L3 h (c:=c) hk' hq x1 x2 x3 x4 (.arr (rowsCut (li rows) (prodL (li ins)) q)) (.int .i64 ((prodL (li ins)):Int)) x11 x12 x13 x14 x15 x16 es r19 ((syR (li rows) (prodL (li ins))) q k) 0 acc rfl (by omega)
  have ih':=ih (k + 1) (acc ++ (syR (li rows) (prodL (li ins))) q k ++ e2 (c ((nxR (li rows) (prodL (li ins))) q k))) (by omega) (by omega) (by simp [e2_len];omega)
  rw [mach_classes.L2_eq]
  simp only [fBin_lss,bindO_s,fCond_b,decide_eq_true_eq,Int.ofNat_lt,hk',if_true,cut_get h hq hk',row_nxt h hq hk',fLen_sl]
  rw [show ([FV.int .i64 ((nxR (li rows) (prodL (li ins))) q k:Int),sl I (rowN (li rows) (prodL (li ins)) q k).2.1]:List FV)[0]? = some (.int .i64 ((nxR (li rows) (prodL (li ins))) q k:Int)) from rfl,show ([FV.int .i64 ((nxR (li rows) (prodL (li ins))) q k:Int),sl I (rowN (li rows) (prodL (li ins)) q k).2.1]:List FV)[1]? = some (sl I (rowN (li rows) (prodL (li ins)) q k).2.1) from rfl]
  simp only [bindO_s,fLen_sl]
  refine Eq.trans h3 (Eq.trans ih' ?_)
  simp [kI,List.range'_succ]
def sK (s:Str):FV:=.str s
theorem mcl_L1 {c:Nat → Nat} {j many:Nat} (hc:∀ s,s < (li sts).length → c s < 65536) (hcls:∀ s,s < (li sts).length → ∀ t,t < (li sts).length → (c s = c t ↔ EQ (prodL (li ins)) (nxR (li rows) (prodL (li ins))) (syR (li rows) (prodL (li ins))) j s t)) (x4 x5 x6 x7 x8:FV):∀ (d i:Nat) (F:Nat → Nat) (H:List Nat),(li sts).length - i = d → i ≤ (li sts).length → RInv (List.range (li sts).length) (EQ (prodL (li ins)) (nxR (li rows) (prodL (li ins))) (syR (li rows) (prodL (li ins))) (j + 1)) i F H →
  ∃ F' H',RInv (List.range (li sts).length) (EQ (prodL (li ins)) (nxR (li rows) (prodL (li ins))) (syR (li rows) (prodL (li ins))) (j + 1)) (li sts).length F' H' ∧ mach_classes.L1 (.int .i64 ((prodL (li ins)):Int)) (.int .i64 (many:Int)) (.int .i64 ((li sts).length:Int)) (.int .i64 (i:Int)) x4 x5 x6 x7 x8 (sl RW rows) (clsV (li sts).length c) (idxM sK 0 (H.map (keyN c (nxR (li rows) (prodL (li ins))) (syR (li rows) (prodL (li ins))) (prodL (li ins))))) (clsV (li sts).length F) =
   if H'.length = many then some (.arr (clsV (li sts).length F')) else mach_classes.L0 (.int .i64 ((prodL (li ins)):Int)) (.int .i64 (H'.length:Int)) x4 x5 x6 x7 x8 (sl RW rows) (clsV (li sts).length F'):=by
 intro d
 have hn:=h.n1
 have hp1:=p_pos h
 have hp4:=p_le h
 induction d with
 | zero =>
  intro i F H hd hi hI
  have:i = (li sts).length:=by omega
  subst this
  refine ⟨F,H,hI,?_⟩
  rw [mach_classes.L1_eq]
  simp only [idxM_len,List.length_map,fBin_lss,bindO_s,fCond_b,decide_eq_true_eq,Int.ofNat_lt,Nat.lt_irrefl,if_false,fBin_eql,Int.ofNat_inj]
 | succ d ih =>
  intro i F H hd hi hI
  have hi':i < (li sts).length:=by omega
  have hs:(List.range (li sts).length)[i]? = some i:=by simp [hi']
  have hHlt:∀ x ∈ H,x < (li sts).length:=fun x hx => List.mem_range.1 (hI.sub x hx)
  have w:IntKind.i64.wrap ((i:Int) + 1) = ((i + 1:Nat):Int):=wrap64 (by omega) (by omega)
  have hsm:=h.small
  have hq1:(i + 1) * (prodL (li ins)) ≤ (li sts).length * (prodL (li ins)):=Nat.mul_le_mul_right _ hi'
  have hq2:i * (prodL (li ins)) ≤ (i + 1) * (prodL (li ins)):=Nat.mul_le_mul_right _ (by omega)
  have hrl:=h.rlen
  have m1:IntKind.i64.wrap ((i:Int) * ((prodL (li ins)):Int)) = ((i * (prodL (li ins)):Nat):Int):=by rw [← Int.natCast_mul];exact wrap64 (by omega) (by omega)
  have m2:IntKind.i64.wrap (((i + 1:Nat):Int) * ((prodL (li ins)):Int)) = (((i + 1) * (prodL (li ins)):Nat):Int):=by rw [← Int.natCast_mul];exact wrap64 (by omega) (by omega)
  have hpos:1 * 1 ≤ (li sts).length * (prodL (li ins)):=Nat.mul_le_mul hn.1 hp1
  have hcut:=cut_rows (rows:=rows) hq2 (by omega) (by omega)
  obtain ⟨u1,u2,_⟩:=rvec_at (g:=fun t => FV.int .i64 (c t:Int)) hi'
  obtain ⟨v1,_,_⟩:=rvec_at (g:=fun t => FV.int .i64 (F t:Int)) hi'
  have v2:∀ a:Nat,rSet (clsV (li sts).length F) i 0 [.int .i64 (a:Int)] = some (clsV (li sts).length fun t => if t = i then a else F t):=fun a => rvec_set hi' (by simp) (fun j hj _ => by simp [hj])
  have sh:fBin .shr (.int .i64 (c i:Int)) (.int .u64 8) = some (.int .i64 ((c i:Int).fdiv (2 ^ (min (Int.toNat 8) IntKind.i64.bits)))):=rfl
  have l4:∀ (a:Nat) (es:List (FV × FV)),mach_classes.L4 (.int .i64 ((prodL (li ins)):Int)) (.int .i64 (many:Int)) (.int .i64 (i:Int)) (.int .i64 (a:Int)) (.int .i64 ((li sts).length:Int)) (.int .i64 (i:Int)) x4 x5 x6 x7 x8 (sl RW rows) (clsV (li sts).length c) es (clsV (li sts).length F) (BV (e2 (c i) ++ kI c (nxR (li rows) (prodL (li ins))) (syR (li rows) (prodL (li ins))) i 0 (prodL (li ins)))) =
    mach_classes.L1 (.int .i64 ((prodL (li ins)):Int)) (.int .i64 (many:Int)) (.int .i64 ((li sts).length:Int)) (.int .i64 ((i + 1:Nat):Int)) x4 x5 x6 x7 x8 (sl RW rows) (clsV (li sts).length c) es (clsV (li sts).length fun t => if t = i then a else F t):=fun a es => by
   rw [mach_classes.L4_eq,show rIdx (clsV (li sts).length F) _ = _ from v1]
   simp only [bindO_s,v2,fBin_add,w]
  have h2:=mcl_L2 h (c:=c) hi' (.int .i64 (many:Int)) (.int .i64 (i:Int)) (.int .i64 ((li sts).length:Int)) (.int .i64 (i:Int)) x4 x5 x6 x7 x8 (sl RW rows) (idxM sK 0 (H.map (keyN c (nxR (li rows) (prodL (li ins))) (syR (li rows) (prodL (li ins))) (prodL (li ins))))) (clsV (li sts).length F) (prodL (li ins)) 0 (e2 (c i)) (by omega) (Nat.zero_le _) (by simp [e2_len])
  have e1:mach_classes.L1 (.int .i64 ((prodL (li ins)):Int)) (.int .i64 (many:Int)) (.int .i64 ((li sts).length:Int)) (.int .i64 (i:Int)) x4 x5 x6 x7 x8 (sl RW rows) (clsV (li sts).length c) (idxM sK 0 (H.map (keyN c (nxR (li rows) (prodL (li ins))) (syR (li rows) (prodL (li ins))) (prodL (li ins))))) (clsV (li sts).length F) =
    mach_classes.L2 (.int .i64 ((prodL (li ins)):Int)) (.int .i64 (many:Int)) (.int .i64 (i:Int)) (.int .i64 ((li sts).length:Int)) (.int .i64 (i:Int)) (.arr (rowsCut (li rows) (prodL (li ins)) i)) (.int .i64 ((prodL (li ins)):Int)) (.int .i64 ((prodL (li ins)):Int)) x4 x5 x6 x7 x8 (sl RW rows) (clsV (li sts).length c) (idxM sK 0 (H.map (keyN c (nxR (li rows) (prodL (li ins))) (syR (li rows) (prodL (li ins))) (prodL (li ins))))) (clsV (li sts).length F) (BV (e2 (c i) ++ kI c (nxR (li rows) (prodL (li ins))) (syR (li rows) (prodL (li ins))) i 0 (prodL (li ins)))):=by
   rw [mach_classes.L1_eq]
   simp only [fBin_lss,bindO_s,fCond_b,decide_eq_true_eq,Int.ofNat_lt,hi',if_true]
   rw [show rIdx (clsV (li sts).length c) _ = _ from u1]
   simp only [bindO_s]
   rw [show rGet (clsV (li sts).length c) _ _ = _ from u2]
   simp only [bindO_s,fConvInt_int,sh,e2_BV,fBin_mul,fBin_add,m1,w,m2,hcut,fLen_arr,show ((((li rows).map RW).take ((i + 1) * (prodL (li ins)))).drop (i * (prodL (li ins)))).length = (prodL (li ins)) from cut_len h hi']
   exact h2
  have hlook:=mLook_idx (key:=sK) (ag:=false) (sk:=[.str]) str_keyEq str_keyOk (keyN c (nxR (li rows) (prodL (li ins))) (syR (li rows) (prodL (li ins))) (prodL (li ins)) i) (H.map (keyN c (nxR (li rows) (prodL (li ins))) (syR (li rows) (prodL (li ins))) (prodL (li ins))))
  have e3:mach_classes.L2 (.int .i64 ((prodL (li ins)):Int)) (.int .i64 (many:Int)) (.int .i64 (i:Int)) (.int .i64 ((li sts).length:Int)) (.int .i64 (i:Int)) (.arr (rowsCut (li rows) (prodL (li ins)) i)) (.int .i64 ((prodL (li ins)):Int)) (.int .i64 ((prodL (li ins)):Int)) x4 x5 x6 x7 x8 (sl RW rows) (clsV (li sts).length c) (idxM sK 0 (H.map (keyN c (nxR (li rows) (prodL (li ins))) (syR (li rows) (prodL (li ins))) (prodL (li ins))))) (clsV (li sts).length F) (BV (e2 (c i) ++ kI c (nxR (li rows) (prodL (li ins))) (syR (li rows) (prodL (li ins))) i 0 (prodL (li ins)))) =
    if keyN c (nxR (li rows) (prodL (li ins))) (syR (li rows) (prodL (li ins))) (prodL (li ins)) i ∈ H.map (keyN c (nxR (li rows) (prodL (li ins))) (syR (li rows) (prodL (li ins))) (prodL (li ins))) then mach_classes.L1 (.int .i64 ((prodL (li ins)):Int)) (.int .i64 (many:Int)) (.int .i64 ((li sts).length:Int)) (.int .i64 ((i + 1:Nat):Int)) x4 x5 x6 x7 x8 (sl RW rows) (clsV (li sts).length c) (idxM sK 0 (H.map (keyN c (nxR (li rows) (prodL (li ins))) (syR (li rows) (prodL (li ins))) (prodL (li ins))))) (clsV (li sts).length fun t => if t = i then pos (keyN c (nxR (li rows) (prodL (li ins))) (syR (li rows) (prodL (li ins))) (prodL (li ins)) i) (H.map (keyN c (nxR (li rows) (prodL (li ins))) (syR (li rows) (prodL (li ins))) (prodL (li ins)))) else F t)
    else mach_classes.L1 (.int .i64 ((prodL (li ins)):Int)) (.int .i64 (many:Int)) (.int .i64 ((li sts).length:Int)) (.int .i64 ((i + 1:Nat):Int)) x4 x5 x6 x7 x8 (sl RW rows) (clsV (li sts).length c) (idxM sK 0 ((H ++ [i]).map (keyN c (nxR (li rows) (prodL (li ins))) (syR (li rows) (prodL (li ins))) (prodL (li ins))))) (clsV (li sts).length fun t => if t = i then H.length else F t):=by
   rw [mach_classes.L2_eq]
   simp only [fBin_lss,bindO_s,fCond_b,decide_eq_true_eq,Int.ofNat_lt,Nat.lt_irrefl,if_false,bytes_BV]
   rw [show mLook false [.str] (idxM sK 0 (H.map (keyN c (nxR (li rows) (prodL (li ins))) (syR (li rows) (prodL (li ins))) (prodL (li ins))))) (.str (kT (e2 (c i) ++ kI c (nxR (li rows) (prodL (li ins))) (syR (li rows) (prodL (li ins))) i 0 (prodL (li ins))))) (.int .i64 0) = _ from hlook]
   simp only [bindO_s,fUn_not,fCond_b]
   by_cases g:keyN c (nxR (li rows) (prodL (li ins))) (syR (li rows) (prodL (li ins))) (prodL (li ins)) i ∈ H.map (keyN c (nxR (li rows) (prodL (li ins))) (syR (li rows) (prodL (li ins))) (prodL (li ins)))
   ·simp only [g,decide_true,Bool.not_true,Bool.false_eq_true,if_false,if_true]
    exact l4 _ _
   ·have hput:=mPut_idx (key:=sK) (ag:=false) (sk:=[.str]) str_keyEq (keyN c (nxR (li rows) (prodL (li ins))) (syR (li rows) (prodL (li ins))) (prodL (li ins)) i) (H.map (keyN c (nxR (li rows) (prodL (li ins))) (syR (li rows) (prodL (li ins))) (prodL (li ins)))) 0 g
    rw [Nat.zero_add] at hput
    simp only [g,decide_false,Bool.not_false,if_true,if_false]
    rw [show keyOk false [.str] (FV.str (kT (e2 (c i) ++ kI c (nxR (li rows) (prodL (li ins))) (syR (li rows) (prodL (li ins))) i 0 (prodL (li ins))))) = true from rfl,gB_t,idxM_len]
    rw [show mPut false [.str] (idxM sK 0 (H.map (keyN c (nxR (li rows) (prodL (li ins))) (syR (li rows) (prodL (li ins))) (prodL (li ins))))) (.str (kT (e2 (c i) ++ kI c (nxR (li rows) (prodL (li ins))) (syR (li rows) (prodL (li ins))) i 0 (prodL (li ins))))) (.int .i64 ((H.map (keyN c (nxR (li rows) (prodL (li ins))) (syR (li rows) (prodL (li ins))) (prodL (li ins)))).length:Int)) = _ from hput]
    simp only [bindO_s,List.length_map]
    refine Eq.trans (l4 _ _) ?_
    simp only [List.map_append,List.map_cons,List.map_nil]
  rw [e1,e3]
  by_cases g:keyN c (nxR (li rows) (prodL (li ins))) (syR (li rows) (prodL (li ins))) (prodL (li ins)) i ∈ H.map (keyN c (nxR (li rows) (prodL (li ins))) (syR (li rows) (prodL (li ins))) (prodL (li ins)))
  ·rw [if_pos g]
   have hp:=pos_get g
   rw [List.getElem?_map] at hp
   cases hx:H[pos (keyN c (nxR (li rows) (prodL (li ins))) (syR (li rows) (prodL (li ins))) (prodL (li ins)) i) (H.map (keyN c (nxR (li rows) (prodL (li ins))) (syR (li rows) (prodL (li ins))) (prodL (li ins))))]? with
   | none => rw [hx] at hp;cases hp
   | some x =>
    rw [hx] at hp
    simp only [Option.map_some,Option.some.injEq] at hp
    exact ih (i + 1) _ H (by omega) (by omega) (hI.old hs hx ((keyN_iff h hc hcls (hHlt x (List.mem_of_getElem? hx)) hi').1 hp))
  ·rw [if_neg g]
   exact ih (i + 1) _ (H ++ [i]) (by omega) (by omega) (hI.new (fun x => EQ.refl _ x) (fun g => g.symm) hs (fun x hx e => g (List.mem_map.2 ⟨x,hx,(keyN_iff h hc hcls (hHlt x hx) hi').2 e⟩)))
theorem mcl_L0 (x4 x5 x6 x7 x8:FV):∀ (d many j:Nat) (c:Nat → Nat),(li sts).length - many = d → (∀ s,s < (li sts).length → c s < 65536) → (∀ s,s < (li sts).length → ∀ t,t < (li sts).length → (c s = c t ↔ EQ (prodL (li ins)) (nxR (li rows) (prodL (li ins))) (syR (li rows) (prodL (li ins))) j s t)) → (many = 0 ∨ ∃ Hj,Hj.length = many ∧ Heads (List.range (li sts).length) (EQ (prodL (li ins)) (nxR (li rows) (prodL (li ins))) (syR (li rows) (prodL (li ins))) j) Hj) →
  ∃ c',(∀ s,s < (li sts).length → ∀ t,t < (li sts).length → (c' s = c' t ↔ Same (prodL (li ins)) (nxR (li rows) (prodL (li ins))) (syR (li rows) (prodL (li ins))) s t)) ∧ mach_classes.L0 (.int .i64 ((prodL (li ins)):Int)) (.int .i64 (many:Int)) x4 x5 x6 x7 x8 (sl RW rows) (clsV (li sts).length c) = some (.arr (clsV (li sts).length c')):=by
 intro d
 have hn:=h.n1
 induction d using Nat.strongRecOn with
 | ind d ih =>
  intro many j c hd hc hcls hm
  obtain ⟨F',H',k1,k2⟩:=mcl_L1 h (many:=many) hc hcls x4 x5 x6 x7 x8 _ 0 (fun _ => 0) [] rfl (Nat.zero_le _) (RInv.init _ _ _)
  have e0:mach_classes.L0 (.int .i64 ((prodL (li ins)):Int)) (.int .i64 (many:Int)) x4 x5 x6 x7 x8 (sl RW rows) (clsV (li sts).length c) =
    mach_classes.L1 (.int .i64 ((prodL (li ins)):Int)) (.int .i64 (many:Int)) (.int .i64 ((li sts).length:Int)) (.int .i64 ((0:Nat):Int)) x4 x5 x6 x7 x8 (sl RW rows) (clsV (li sts).length c) (idxM sK 0 (([]:List Nat).map (keyN c (nxR (li rows) (prodL (li ins))) (syR (li rows) (prodL (li ins))) (prodL (li ins))))) (clsV (li sts).length fun _ => 0):=by
   rw [mach_classes.L0_eq]
   simp only [clsV_len,asNat_nat,bindO_s,Nat.le_refl,show (li sts).length * 8 ≤ room by unfold room;omega,decide_true,Bool.and_self,ge_iff_le,gB_t,rep_rvec]
   rfl
  have hlr:(List.range (li sts).length).length ≤ (li sts).length:=by simp
  have hH':=k1.heads hlr
  have hcl':=k1.cls (fun g => g.symm) (fun g g' => g.trans g') hlr
  have hcls':∀ s,s < (li sts).length → ∀ t,t < (li sts).length → (F' s = F' t ↔ EQ (prodL (li ins)) (nxR (li rows) (prodL (li ins))) (syR (li rows) (prodL (li ins))) (j + 1) s t):=fun s hs t ht => hcl' s (List.mem_range.2 hs) t (List.mem_range.2 ht)
  have hle:=heads_len (n:=(li sts).length) (fun x => EQ.refl _ x) hH' (fun x hx => List.mem_range.1 hx)
  have hlt:∀ s,s < (li sts).length → F' s < 65536:=fun s hs => by
   have h1:=k1.lt s (by rw [List.take_of_length_le hlr];exact List.mem_range.2 hs)
   omega
  have hpos:H'.length ≠ 0:=fun e => by
   obtain ⟨x,hx,_⟩:=hH'.cov 0 (List.mem_range.2 (by omega))
   have:=List.length_pos_of_mem hx
   omega
  by_cases g:H'.length = many
  ·rcases hm with rfl | ⟨Hj,rfl,hHj⟩
   ·exact absurd g hpos
   ·obtain ⟨_,g2⟩:=Heads.grow (fun x => EQ.refl j x) (fun g => g.symm) (fun g g' => g.trans g') (fun g => g.symm) (fun g g' => g.trans g') (fun g => g.1) hHj hH'
    refine ⟨F',fun s hs t ht => ?_,by rw [e0,k2,if_pos g]⟩
    rw [hcls' s hs t ht]
    exact ⟨fun e => same_stable (l:=List.range (li sts).length) (fun s hs k hk => List.mem_range.2 (nx_lt h s (List.mem_range.1 hs) k hk)) (g2 g) (List.mem_range.2 hs) (List.mem_range.2 ht) e,fun e => e _⟩
  ·have hgt:many < H'.length:=by
    rcases hm with rfl | ⟨Hj,rfl,hHj⟩
    ·omega
    ·obtain ⟨g1,_⟩:=Heads.grow (fun x => EQ.refl j x) (fun g => g.symm) (fun g g' => g.trans g') (fun g => g.symm) (fun g g' => g.trans g') (fun g => g.1) hHj hH'
     omega
   obtain ⟨c',r1,r2⟩:=ih ((li sts).length - H'.length) (by omega) H'.length (j + 1) F' rfl hlt hcls' (.inr ⟨H',rfl,hH'⟩)
   exact ⟨c',r1,by rw [e0,k2,if_neg g];exact r2⟩
theorem mach_classes_ok (x0 x2 x4:FV):∃ c,(∀ s,s < (li sts).length → ∀ t,t < (li sts).length → (c s = c t ↔ Same (prodL (li ins)) (nxR (li rows) (prodL (li ins))) (syR (li rows) (prodL (li ins))) s t)) ∧ mach_classes (.agg [x0,sl S sts,x2,sl P ins,x4,sl RW rows]) = some (.arr (clsV (li sts).length c)):=by
 have hn:=h.n1
 have hp4:=p_le h
 have hi8:=h.i8
 have hcap:capP (prodL (li ins)) = (prodL (li ins)):=by unfold capP;rw [if_neg (by omega)]
 obtain ⟨c,r1,r2⟩:=mcl_L0 h x0 (sl S sts) x2 (sl P ins) x4 _ 0 0 (fun _ => 0) rfl (fun _ _ => by omega) (fun _ _ _ _ => ⟨fun _ => trivial,fun _ => rfl⟩) (.inl rfl)
 refine ⟨c,r1,?_⟩
 rw [mach_classes.eq]
 simp only [fIsAgg_agg,List.length_cons,List.length_nil,fCell_zero,fCell_succ,mach_product_ok (show (li ins).length < 1000000000000000 by omega) h.lens,hcap,bindO_s,fLen_sl,asNat_nat,Nat.le_refl,show (li sts).length * 8 ≤ room by unfold room;omega,decide_true,Bool.and_self,ge_iff_le,gB_t,rep_rvec]
 rw [show (0 + 1 + 1 + 1 + 1 + 1 + 1 == 6) = true from rfl,gB_t]
 exact r2
end
end Go.Proofs.Ytelcbakleaaneaa
end
section
namespace Go.Proofs.Ytelcbakleaaneaa
open Go Go.Proofs.Ytelcbakleaaneaa.VM
def iK (v:Nat):FV:=.int .i64 (v:Int)
theorem int_keyEq (a b:Nat):keyEq false [.int] (iK a) (iK b) = some (decide (a = b)):=by
 have:((a:Int) == (b:Int)) = decide (a = b):=by rw [Bool.eq_iff_iff];simp;omega
 simp [iK,keyEq,scalarEq,this]
theorem int_keyOk (a:Nat):keyOk false [.int] (iK a) = true:=rfl
section
variable {nm:Str} {sts:Option (List Str)} {start:Int} {ins outs:Option (List TPort)} {rows:Option (List TRow)}
variable (h:OkW (li sts) start (li ins) (li outs) (li rows))
include h
theorem addC_ok {c:Nat → Nat} {s:Nat} (hs:s < (li sts).length):∀ (d k:Nat) (M:List Nat),k + d ≤ (prodL (li ins)) → (M.map c).Nodup → (∀ x ∈ M,x < (li sts).length) → ((expA (nxR (li rows) (prodL (li ins))) (addC c) s d k M).map c).Nodup ∧ ∀ x ∈ expA (nxR (li rows) (prodL (li ins))) (addC c) s d k M,x < (li sts).length
 | 0,_,M,_,h1,h2 => ⟨h1,h2⟩
 | d + 1,k,M,hk,h1,h2 => by
  unfold expA
  refine addC_ok hs d (k + 1) _ (by omega) ?_ ?_
  ·unfold addC
   by_cases g:c ((nxR (li rows) (prodL (li ins))) s k) ∈ M.map c
   ·rw [if_pos g];exact h1
   ·rw [if_neg g,List.map_append,List.nodup_append]
    exact ⟨h1,by simp,fun y hy z hz => by simp at hz;subst hz;exact fun e => g (e ▸ hy)⟩
  ·intro x hx
   unfold addC at hx
   split at hx
   ·exact h2 x hx
   ·simp only [List.mem_append,List.mem_singleton] at hx
    rcases hx with hx | rfl
    ·exact h2 x hx
    ·exact nx_lt h s hs k (by omega)
omit h in
theorem bfs_pre {nx:Nat → Nat → Nat} {p:Nat} {c:Nat → Nat}:∀ (d j:Nat) (M:List Nat),M <+: bfs p nx (addC c) d j M
 | 0,_,_ => List.prefix_refl _
 | d + 1,j,M => by
  cases hs:M[j]? with
  | none => rw [bfs_none hs];exact List.prefix_refl _
  | some s => rw [bfs_some hs];exact (expC_pre s p 0 M).trans (bfs_pre d (j + 1) _)
end
end Go.Proofs.Ytelcbakleaaneaa
end
section
namespace Go.Proofs.Ytelcbakleaaneaa
open Go Go.Proofs.Ytelcbakleaaneaa.VM
theorem equal_self {o:Option (List Str)} (hs:(li o).length < 1000000000000000):ref02_equal (sl S o) (sl S o) = some (.bool true):=by
 have key:∀ (t:List Str) (k:Nat),(li o).drop k = t → ref02_equal.L0 (sl S o) (sl S o) (.int .i64 (k:Int)) = some (.bool true):=by
  intro t
  induction t with
  | nil =>
   intro k hd
   rw [ref02_equal.L0_eq]
   simp only [fLen_sl,bindO_s,fBin_lss,fCond_b,decide_eq_true_eq,Int.ofNat_lt,drop_nil hd,if_false]
  | cons x t ih =>
   intro k hd
   obtain ⟨hk,hn,hs'⟩:=drop_cons hd
   have w:IntKind.i64.wrap ((k:Int) + 1) = ((k + 1:Nat):Int):=wrap64 (by omega) (by omega)
   rw [ref02_equal.L0_eq]
   simp only [fLen_sl,bindO_s,fBin_lss,fCond_b,decide_eq_true_eq,Int.ofNat_lt,hk,if_true,idx_sl hn (S_len _),S_zero,fBin_neqS,ne_eq,not_true_eq_false,if_false,fBin_add,w]
   exact ih (k + 1) hs'
 rw [ref02_equal.eq]
 simp only [fLen_sl,bindO_s,fBin_neq,ne_eq,not_true_eq_false,decide_false,fCond_b,Bool.false_eq_true,if_false]
 exact key _ 0 rfl
theorem samePorts_self {o:Option (List TPort)} (hs:(li o).length < 1000000000000000) (hv:∀ q ∈ li o,(li q.2.1).length < 1000000000000000):ref02_samePorts (sl P o) (sl P o) = some (.bool true):=by
 have key:∀ (t:List TPort) (k:Nat),(li o).drop k = t → ref02_samePorts.L0 (sl P o) (sl P o) (.int .i64 (k:Int)) = some (.bool true):=by
  intro t
  induction t with
  | nil =>
   intro k hd
   rw [ref02_samePorts.L0_eq]
   simp only [fLen_sl,bindO_s,fBin_lss,fCond_b,decide_eq_true_eq,Int.ofNat_lt,drop_nil hd,if_false]
  | cons x t ih =>
   intro k hd
   obtain ⟨hk,hn,hs'⟩:=drop_cons hd
   have w:IntKind.i64.wrap ((k:Int) + 1) = ((k + 1:Nat):Int):=wrap64 (by omega) (by omega)
   rw [ref02_samePorts.L0_eq]
   simp only [fLen_sl,bindO_s,fBin_lss,fCond_b,decide_eq_true_eq,Int.ofNat_lt,hk,if_true,idx_sl hn (P_len _),P_zero,P_one,fBin_neqS,ne_eq,not_true_eq_false,if_false,equal_self (hv x (List.mem_of_getElem? hn)),fUn_not,Bool.not_true,Bool.false_eq_true,fBin_add,w]
   exact ih (k + 1) hs'
 rw [ref02_samePorts.eq]
 simp only [fLen_sl,bindO_s,fBin_neq,ne_eq,not_true_eq_false,decide_false,fCond_b,Bool.false_eq_true,if_false]
 exact key _ 0 rfl
theorem sameMachine_self {nm:Str} {sts:Option (List Str)} {start:Int} {ins outs:Option (List TPort)} {rows:Option (List TRow)} (v:SmM (nm,sts,start,ins,outs,rows,())) :
  ref02_SameMachine (.agg [.str nm,sl S sts,.int .i64 start,sl P ins,sl P outs,sl RW rows]) (.agg [.str nm,sl S sts,.int .i64 start,sl P ins,sl P outs,sl RW rows]) = some (.bool true):=by
 have hr:=v.rows
 simp only at hr
 have key:∀ (t:List TRow) (k:Nat),(li rows).drop k = t → ref02_SameMachine.L1 (.int .i64 (k:Int)) (.str nm) (sl S sts) (.int .i64 start) (sl P ins) (sl P outs) (sl RW rows) (.str nm) (sl S sts) (.int .i64 start) (sl P ins) (sl P outs) (sl RW rows) = some (.bool true):=by
  intro t
  induction t with
  | nil =>
   intro k hd
   rw [ref02_SameMachine.L1_eq]
   simp only [fLen_sl,bindO_s,fBin_lss,fCond_b,decide_eq_true_eq,Int.ofNat_lt,drop_nil hd,if_false]
  | cons x t ih =>
   intro k hd
   obtain ⟨hk,hn,hs'⟩:=drop_cons hd
   have w:IntKind.i64.wrap ((k:Int) + 1) = ((k + 1:Nat):Int):=wrap64 (by omega) (by omega)
   have z:=(sameI_sl (a:=x.2.1) (b:=x.2.1) (hr.2 x (List.mem_of_getElem? hn)))
   rw [ref02_SameMachine.L1_eq]
   simp only [fLen_sl,bindO_s,fBin_lss,fCond_b,decide_eq_true_eq,Int.ofNat_lt,hk,if_true,idx_sl hn (RW_len _),RW_zero,RW_one,fBin_neq,ne_eq,not_true_eq_false,if_false,z,decide_true,fUn_not,Bool.not_true,Bool.false_eq_true,fBin_add,w]
   exact ih (k + 1) hs'
 rw [ref02_SameMachine.eq]
 simp only [fIsAgg_agg,List.length_cons,List.length_nil,fCell_zero,fCell_succ,fBin_neqS,fBin_neq,ne_eq,not_true_eq_false,decide_false,bindO_s,fCond_b,Bool.false_eq_true,if_false,equal_self v.sts.1,samePorts_self v.ins.1 (fun q hq => (v.ins.2 q hq).2.1),samePorts_self v.outs.1 (fun q hq => (v.outs.2 q hq).2.1),fUn_not,Bool.not_true,fLen_sl]
 rw [show (0 + 1 + 1 + 1 + 1 + 1 + 1 == 6) = true from rfl,gB_t,gB_t,ref02_SameMachine.L0_eq]
 exact key _ 0 rfl
theorem prodL_cp:∀ l:List TPort,prodL (cpP l) = prodL l
 | [] => rfl
 | q :: l => by
  have ih:=prodL_cp l
  simp only [cpP,List.map_cons,prodL,li_some] at ih ⊢
  rw [ih]
theorem numGo_cp:∀ (l:List TPort) (v:List Int) (a:Nat),numGo (cpP l) v a = numGo l v a
 | [],v,a => by simp [cpP,numGo]
 | q :: l,[],a => by simp [cpP,numGo]
 | q :: l,x :: v,a => by
  have ih:=numGo_cp l v (a * (li q.2.1).length + x.toNat)
  simp only [cpP,List.map_cons,numGo,li_some] at ih ⊢
  rw [ih]
theorem rowsL_len (rows:List TRow) (p:Nat) (g:Nat → Nat):∀ H:List Nat,(rowsL rows p g H).length = H.length * p
 | [] => by simp [rowsL]
 | s :: H => by
  have ih:=rowsL_len rows p g H
  simp only [rowsL,List.flatMap_cons,List.length_append,List.length_map,List.length_range',List.length_cons] at ih ⊢
  rw [ih,Nat.add_mul];omega
theorem rowsL_get (rows:List TRow) (p:Nat) (g:Nat → Nat):∀ (H:List Nat) (a k s:Nat),H[a]? = some s → k < p → (rowsL rows p g H)[a * p + k]? = some (rowT rows p g s k)
 | [],a,k,s,h,_ => by simp at h
 | x :: H,0,k,s,h,hk => by
  simp at h;subst h
  simp only [rowsL,List.flatMap_cons,Nat.zero_mul,Nat.zero_add]
  rw [List.getElem?_append_left (by simpa using hk)]
  simp [hk]
 | x :: H,a + 1,k,s,h,hk => by
  have ih:=rowsL_get rows p g H a k s (by simpa using h) hk
  simp only [rowsL,List.flatMap_cons] at ih ⊢
  rw [List.getElem?_append_right (by simp [Nat.add_mul];omega)]
  simp only [List.length_map,List.length_range']
  rw [show (a + 1) * p + k - p = a * p + k by rw [Nat.add_mul];omega]
  exact ih
theorem nodup_of_map {α β:Type} {f:α → β}:∀ {l:List α},(l.map f).Nodup → l.Nodup
 | [],_ => by simp
 | a :: l,h => by
  rw [List.map_cons,List.nodup_cons] at h
  exact List.nodup_cons.2 ⟨fun g => h.1 (List.mem_map_of_mem g),nodup_of_map h.2⟩
section
variable {nm:Str} {sts:Option (List Str)} {start:Int} {ins outs:Option (List TPort)} {rows:Option (List TRow)}
variable (h:OkW (li sts) start (li ins) (li outs) (li rows))
variable {H:List Nat} {c:Nat → Nat} (hc:∀ s,s < (li sts).length → ∀ t,t < (li sts).length → (c s = c t ↔ Same (prodL (li ins)) (nxR (li rows) (prodL (li ins))) (syR (li rows) (prodL (li ins))) s t)) (hnd:(H.map c).Nodup) (hlt:∀ x ∈ H,x < (li sts).length) (hle:H.length ≤ (li sts).length) (hcl:∀ x ∈ H,∀ k,k < (prodL (li ins)) → c ((nxR (li rows) (prodL (li ins))) x k) ∈ H.map c) (h0:H[0]? = some start.toNat)
include h hc hnd hlt hle hcl h0
theorem min_row {a x s k:Nat} (ha:H[a]? = some x) (hs:s < (li sts).length) (e:Same (prodL (li ins)) (nxR (li rows) (prodL (li ins))) (syR (li rows) (prodL (li ins))) x s) (hk:k < (prodL (li ins))) :
  li (rowN (rowsL (li rows) (prodL (li ins)) (fun t => pos (c t) (H.map c)) H) (prodL (li ins)) a k).2.1 = (syR (li rows) (prodL (li ins))) s k ∧ ∃ x',H[(rowN (rowsL (li rows) (prodL (li ins)) (fun t => pos (c t) (H.map c)) H) (prodL (li ins)) a k).1.toNat]? = some x' ∧ Same (prodL (li ins)) (nxR (li rows) (prodL (li ins))) (syR (li rows) (prodL (li ins))) x' ((nxR (li rows) (prodL (li ins))) s k):=by
 have hx:=List.mem_of_getElem? ha
 have hr:rowN (rowsL (li rows) (prodL (li ins)) (fun t => pos (c t) (H.map c)) H) (prodL (li ins)) a k = rowT (li rows) (prodL (li ins)) (fun t => pos (c t) (H.map c)) x k:=by
  unfold rowN
  rw [List.getD_eq_getElem?_getD,rowsL_get _ _ _ H a k x ha hk];rfl
 rw [hr]
 obtain ⟨e1,e2⟩:=e.step hk
 have hm:=hcl x hx k hk
 have hp:=pos_get hm
 rw [List.getElem?_map] at hp
 simp only [rowT,li_some,Int.toNat_natCast]
 refine ⟨e1,?_⟩
 cases hx':H[pos (c ((nxR (li rows) (prodL (li ins))) x k)) (H.map c)]? with
 | none => rw [hx'] at hp;cases hp
 | some x' =>
  rw [hx'] at hp
  simp only [Option.map_some,Option.some.injEq] at hp
  exact ⟨x',rfl,((hc x' (hlt x' (List.mem_of_getElem? hx')) _ (nx_lt h x (hlt x hx) k hk)).1 hp).trans e2⟩
theorem min_runM:∀ (xs:List (Option (List Int))) (a x s:Nat),H[a]? = some x → s < (li sts).length → Same (prodL (li ins)) (nxR (li rows) (prodL (li ins))) (syR (li rows) (prodL (li ins))) x s → fitAll (li ins) xs = true →
  (runM (cpP (li ins)) (rowsL (li rows) (prodL (li ins)) (fun t => pos (c t) (H.map c)) H) a xs).1 = (runM (li ins) (li rows) s xs).1
 | [],_,_,_,_,_,_,_ => rfl
 | v :: xs,a,x,s,ha,hs,e,hf => by
  simp only [fitAll,List.all_cons,Bool.and_eq_true] at hf
  have hfit:=hf.1
  simp only [fitP,Bool.and_eq_true,decide_eq_true_eq] at hfit
  have hk:=numGo_lt _ _ 0 hfit.1 hfit.2
  have hk':numGo (li ins) (li v) 0 < (prodL (li ins)):=by omega
  obtain ⟨r1,x',r2,r3⟩:=min_row h hc hnd hlt hle hcl h0 ha hs e hk'
  have eA:rowAt (cpP (li ins)) (rowsL (li rows) (prodL (li ins)) (fun t => pos (c t) (H.map c)) H) a (li v) = rowN (rowsL (li rows) (prodL (li ins)) (fun t => pos (c t) (H.map c)) H) (prodL (li ins)) a (numGo (li ins) (li v) 0):=by
   unfold rowAt rowN;rw [prodL_cp,numGo_cp]
  have eB:rowAt (li ins) (li rows) s (li v) = rowN (li rows) (prodL (li ins)) s (numGo (li ins) (li v) 0):=rfl
  simp only [runM,eA,eB]
  have ih:=min_runM xs _ x' _ r2 (nx_lt h s hs _ hk') r3 hf.2
  unfold nxR at ih
  rw [r1,ih]
  rfl
end
end Go.Proofs.Ytelcbakleaaneaa
end
section
namespace Go.Proofs.Ytelcbakleaaneaa
open Go Go.Proofs.Ytelcbakleaaneaa.VM
section
variable {nm:Str} {sts:Option (List Str)} {start:Int} {ins outs:Option (List TPort)} {rows:Option (List TRow)}
variable (h:OkW (li sts) start (li ins) (li outs) (li rows))
include h
theorem mof_L1 {c:Nat → Nat} {s:Nat} (hs:s < (li sts).length) (x5 x6 x7 x8 x9 x10 x11 x12 x13 x15 x16 x17 x18:FV) (r19 r20 r21 r22 r23:List (List FV)):∀ (d k:Nat) (M:List Nat) (acc:List TRow),(prodL (li ins)) - k = d → k ≤ (prodL (li ins)) → (M.map c).Nodup → (∀ x ∈ M,x < (li sts).length) → acc.length + d ≤ 20000000 → ∀ Mf,expA (nxR (li rows) (prodL (li ins))) (addC c) s d k M <+: Mf →
  mach_minimalOf.L1 (.arr (clsV (li sts).length c)) (.int .i64 ((prodL (li ins)):Int)) (.arr (rowsCut (li rows) (prodL (li ins)) s)) (.int .i64 ((prodL (li ins)):Int)) (.int .i64 (k:Int)) x5 x6 x7 x8 x9 x10 x11 x12 x13 (idxM iK 0 (M.map c)) x15 x16 x17 x18 r19 r20 r21 r22 r23 (NV M) (acc.map RW) =
   mach_minimalOf.L0 (.arr (clsV (li sts).length c)) (.int .i64 ((prodL (li ins)):Int)) x5 x6 x7 x8 x9 x10 x11 x12 x13 (idxM iK 0 ((expA (nxR (li rows) (prodL (li ins))) (addC c) s d k M).map c)) x15 x16 x17 x18 r19 r20 r21 r22 r23 ((acc ++ (List.range' k d).map fun q => (((pos (c (nxR (li rows) (prodL (li ins)) s q)) (Mf.map c):Nat):Int),(rowN (li rows) (prodL (li ins)) s q).2.1,())).map RW) (NV (expA (nxR (li rows) (prodL (li ins))) (addC c) s d k M)):=by
 intro d
 have hn:=h.n1
 have hp4:=p_le h
 induction d with
 | zero =>
  intro k M acc hd hk hnd hlt ha Mf hpre
  rw [mach_minimalOf.L1_eq]
  simp only [fBin_lss,bindO_s,fCond_b,decide_eq_true_eq,Int.ofNat_lt,show ¬ k < (prodL (li ins)) by omega,if_false,expA,List.range'_zero,List.map_nil,List.append_nil]
 | succ d ih =>
  intro k M acc hd hk hnd hlt ha Mf hpre
  have hk':k < (prodL (li ins)):=by omega
  have hx:=nx_lt h s hs k hk'
  have hle:M.length ≤ (li sts).length:=pigD (li sts).length M (nodup_of_map hnd) hlt
  have w:IntKind.i64.wrap ((k:Int) + 1) = ((k + 1:Nat):Int):=wrap64 (by omega) (by omega)
  obtain ⟨_,_,u1⟩:=rvec_at (g:=fun t => FV.int .i64 (c t:Int)) hx
  have zero1:∀ x:FV,([x]:List FV)[0]? = some x:=fun _ => rfl
  have hlook:=mLook_idx (key:=iK) (ag:=false) (sk:=[.int]) int_keyEq int_keyOk (c ((nxR (li rows) (prodL (li ins))) s k)) (M.map c)
  have l2:∀ (i:Nat) (es:List (FV × FV)) (M2:List Nat),mach_minimalOf.L2 (.arr (clsV (li sts).length c)) (.int .i64 ((prodL (li ins)):Int)) (.eptr [.int .i64 ((nxR (li rows) (prodL (li ins))) s k:Int),sl I (rowN (li rows) (prodL (li ins)) s k).2.1] 0) (.int .i64 (i:Int)) (.arr (rowsCut (li rows) (prodL (li ins)) s)) (.int .i64 ((prodL (li ins)):Int)) (.int .i64 (k:Int)) x5 x6 x7 x8 x9 x10 x11 x12 x13 es x15 x16 x17 x18 r19 r20 r21 r22 r23 (NV M2) (acc.map RW) =
    mach_minimalOf.L1 (.arr (clsV (li sts).length c)) (.int .i64 ((prodL (li ins)):Int)) (.arr (rowsCut (li rows) (prodL (li ins)) s)) (.int .i64 ((prodL (li ins)):Int)) (.int .i64 ((k + 1:Nat):Int)) x5 x6 x7 x8 x9 x10 x11 x12 x13 es x15 x16 x17 x18 r19 r20 r21 r22 r23 (NV M2) ((acc ++ [(((i:Nat):Int),(rowN (li rows) (prodL (li ins)) s k).2.1,())]).map RW):=fun i es M2 => by
   rw [mach_minimalOf.L2_eq]
   rw [show fAddrO (.eptr [.int .i64 ((nxR (li rows) (prodL (li ins))) s k:Int),sl I (rowN (li rows) (prodL (li ins)) s k).2.1] 0) 1 = some (.eptr [.int .i64 ((nxR (li rows) (prodL (li ins))) s k:Int),sl I (rowN (li rows) (prodL (li ins)) s k).2.1] 1) from rfl]
   simp only [bindO_s]
   rw [show fLd (.eptr [.int .i64 ((nxR (li rows) (prodL (li ins))) s k:Int),sl I (rowN (li rows) (prodL (li ins)) s k).2.1] 1) 0 = some (sl I (rowN (li rows) (prodL (li ins)) s k).2.1) from rfl]
   simp only [bindO_s,List.length_map,show (acc.length + 1) * 32 ≤ room by unfold room;omega,decide_true,gB_t,fBin_add,w]
   rw [show acc.map RW ++ [[FV.int .i64 (i:Int),sl I (rowN (li rows) (prodL (li ins)) s k).2.1]] = (acc ++ [((((i:Nat):Int),(rowN (li rows) (prodL (li ins)) s k).2.1,()):TRow)]).map RW by simp [RW]]
  rw [mach_minimalOf.L1_eq]
  simp only [fBin_lss,bindO_s,fCond_b,decide_eq_true_eq,Int.ofNat_lt,hk',if_true,cut_get h hs hk',row_nxt h hs hk']
  rw [show ([FV.int .i64 ((nxR (li rows) (prodL (li ins))) s k:Int),sl I (rowN (li rows) (prodL (li ins)) s k).2.1]:List FV)[0]? = some (.int .i64 ((nxR (li rows) (prodL (li ins))) s k:Int)) from rfl,show ([FV.int .i64 ((nxR (li rows) (prodL (li ins))) s k:Int),sl I (rowN (li rows) (prodL (li ins)) s k).2.1]:List FV)[1]? = some (sl I (rowN (li rows) (prodL (li ins)) s k).2.1) from rfl]
  simp only [bindO_s]
  rw [show fIdxC 1 (.arr (clsV (li sts).length c)) _ = _ from u1]
  simp only [bindO_s,zero1]
  rw [show mLook false [.int] (idxM iK 0 (M.map c)) (.int .i64 (c ((nxR (li rows) (prodL (li ins))) s k):Int)) (.int .i64 0) = _ from hlook]
  simp only [bindO_s,fUn_not,fCond_b]
  have inMf:∀ M2,M2 <+: Mf → c ((nxR (li rows) (prodL (li ins))) s k) ∈ M2.map c → pos (c ((nxR (li rows) (prodL (li ins))) s k)) (Mf.map c) = pos (c ((nxR (li rows) (prodL (li ins))) s k)) (M2.map c):=fun M2 hp hm => by
   obtain ⟨r,hr⟩:=hp
   rw [← hr,List.map_append,pos_app _ hm]
  unfold expA at hpre ⊢
  by_cases g:c ((nxR (li rows) (prodL (li ins))) s k) ∈ M.map c
  ·have e:addC c M ((nxR (li rows) (prodL (li ins))) s k) = M:=by unfold addC;rw [if_pos g]
   rw [e] at hpre ⊢
   have hpM:M <+: Mf:=(expC_pre s d (k + 1) M).trans hpre
   have ih':=ih (k + 1) M (acc ++ [(((pos (c ((nxR (li rows) (prodL (li ins))) s k)) (M.map c):Nat):Int),(rowN (li rows) (prodL (li ins)) s k).2.1,())]) (by omega) (by omega) hnd hlt (by simp;omega) Mf hpre
   simp only [g,decide_true,Bool.not_true,Bool.false_eq_true,if_false,if_true]
   refine Eq.trans (l2 _ _ _) (Eq.trans ih' ?_)
   congr 2
   simp only [List.range'_succ,List.map_cons,List.append_assoc,List.singleton_append,inMf M hpM g]
  ·have e:addC c M ((nxR (li rows) (prodL (li ins))) s k) = M ++ [(nxR (li rows) (prodL (li ins))) s k]:=by unfold addC;rw [if_neg g]
   rw [e] at hpre ⊢
   have hpM:M ++ [(nxR (li rows) (prodL (li ins))) s k] <+: Mf:=(expC_pre s d (k + 1) _).trans hpre
   have hput:=mPut_idx (key:=iK) (ag:=false) (sk:=[.int]) int_keyEq (c ((nxR (li rows) (prodL (li ins))) s k)) (M.map c) 0 g
   rw [Nat.zero_add] at hput
   have ih':=ih (k + 1) (M ++ [(nxR (li rows) (prodL (li ins))) s k]) (acc ++ [(((M.length:Nat):Int),(rowN (li rows) (prodL (li ins)) s k).2.1,())]) (by omega) (by omega) (by
    rw [List.map_append,List.nodup_append]
    exact ⟨hnd,by simp,fun y hy z hz => by simp at hz;subst hz;exact fun e => g (e ▸ hy)⟩) (fun x hx2 => by
    rcases List.mem_append.1 hx2 with hx2 | hx2
    ·exact hlt x hx2
    ·simp at hx2;subst hx2;exact hx) (by simp;omega) Mf hpre
   simp only [g,decide_false,Bool.not_false,if_true]
   rw [show keyOk false [.int] (.int .i64 (c ((nxR (li rows) (prodL (li ins))) s k):Int)) = true from rfl,gB_t,idxM_len]
   rw [show mPut false [.int] (idxM iK 0 (M.map c)) (.int .i64 (c ((nxR (li rows) (prodL (li ins))) s k):Int)) (.int .i64 ((M.map c).length:Int)) = _ from hput]
   simp only [bindO_s,List.length_map,NV_len,show (M.length + 1) * 8 ≤ room by unfold room;omega,decide_true,gB_t]
   rw [show NV M ++ [[FV.int .i64 ((nxR (li rows) (prodL (li ins))) s k:Int)]] = NV (M ++ [(nxR (li rows) (prodL (li ins))) s k]) by simp [NV,I]]
   rw [List.map_append,List.map_cons,List.map_nil] at ih'
   refine Eq.trans (l2 _ _ _) (Eq.trans ih' ?_)
   have hi:=inMf (M ++ [(nxR (li rows) (prodL (li ins))) s k]) hpM (by simp)
   rw [List.map_append,List.map_cons,List.map_nil,pos_new g,List.length_map] at hi
   congr 2
   simp only [List.range'_succ,List.map_cons,List.append_assoc,List.singleton_append,hi]
def rowsM (rows:List TRow) (p:Nat) (g:Nat → Nat) (H:List Nat):List TRow:=H.flatMap fun s => (List.range' 0 p).map fun q => ((g (nxR rows p s q):Int),(rowN rows p s q).2.1,())
theorem mof_L0 {c:Nat → Nat} (x2 x4 x5 x6 x8 x9 x12 x13 x14 x15:FV) (r16 r17 r18 r19:List (List FV)):∀ (d j:Nat) (M:List Nat) (accR:List TRow),(li sts).length - j = d → j ≤ M.length → (M.map c).Nodup → (∀ x ∈ M,x < (li sts).length) → M.length ≤ (li sts).length → accR.length ≤ j * 4096 →
  mach_minimalOf.L0 (.arr (clsV (li sts).length c)) (.int .i64 ((prodL (li ins)):Int)) x2 (sl S sts) x4 x5 x6 (sl RW rows) x8 x9 (.int .i64 (j:Int)) (idxM iK 0 (M.map c)) x12 x13 x14 x15 r16 r17 r18 r19 (List.replicate j [FV.str []]) (accR.map RW) (NV M) =
   some (.agg [x12,.arr (List.replicate (bfs (prodL (li ins)) (nxR (li rows) (prodL (li ins))) (addC c) d j M).length [FV.str []]),x13,x14,x15,.arr ((accR ++ rowsM (li rows) (prodL (li ins)) (fun t => pos (c t) ((bfs (prodL (li ins)) (nxR (li rows) (prodL (li ins))) (addC c) d j M).map c)) ((bfs (prodL (li ins)) (nxR (li rows) (prodL (li ins))) (addC c) d j M).drop j)).map RW)]):=by
 intro d
 have hn:=h.n1
 have hp1:=p_pos h
 have hp4:=p_le h
 have hsm:=h.small
 have hrl:=h.rlen
 have stop:∀ (d j:Nat) (M:List Nat) (accR:List TRow),j = M.length → mach_minimalOf.L0 (.arr (clsV (li sts).length c)) (.int .i64 ((prodL (li ins)):Int)) x2 (sl S sts) x4 x5 x6 (sl RW rows) x8 x9 (.int .i64 (j:Int)) (idxM iK 0 (M.map c)) x12 x13 x14 x15 r16 r17 r18 r19 (List.replicate j [FV.str []]) (accR.map RW) (NV M) =
   some (.agg [x12,.arr (List.replicate (bfs (prodL (li ins)) (nxR (li rows) (prodL (li ins))) (addC c) d j M).length [FV.str []]),x13,x14,x15,.arr ((accR ++ rowsM (li rows) (prodL (li ins)) (fun t => pos (c t) ((bfs (prodL (li ins)) (nxR (li rows) (prodL (li ins))) (addC c) d j M).map c)) ((bfs (prodL (li ins)) (nxR (li rows) (prodL (li ins))) (addC c) d j M).drop j)).map RW)]):=by
  intro d j M accR hj
  rw [bfs_none (List.getElem?_eq_none_iff.2 (by omega)),List.drop_of_length_le (by omega),mach_minimalOf.L0_eq]
  simp only [NV_len,hj,fBin_eql,bindO_s,fUn_not,decide_true,Bool.not_true,fCond_b,Bool.false_eq_true,if_false,rowsM,List.flatMap_nil,List.append_nil]
 induction d with
 | zero =>
  intro j M accR hd hj hnd hlt hle hR
  exact stop 0 j M accR (by omega)
 | succ d ih =>
  intro j M accR hd hj hnd hlt hle hR
  by_cases g:j = M.length
  ·exact stop (d + 1) j M accR g
  have hR2:accR.length + (prodL (li ins)) ≤ 20000000:=by omega
  have hs:M[j]? = some M[j]:=List.getElem?_eq_getElem (by omega)
  have hsn:=hlt _ (List.mem_of_getElem? hs)
  obtain ⟨q1,q2,_⟩:=NV_get hs
  have w:IntKind.i64.wrap ((j:Int) + 1) = ((j + 1:Nat):Int):=wrap64 (by omega) (by omega)
  have w2:IntKind.i64.wrap ((M[j]:Int) + 1) = ((M[j] + 1:Nat):Int):=wrap64 (by omega) (by omega)
  have hq1:(M[j] + 1) * (prodL (li ins)) ≤ (li sts).length * (prodL (li ins)):=Nat.mul_le_mul_right _ hsn
  have hq2:M[j] * (prodL (li ins)) ≤ (M[j] + 1) * (prodL (li ins)):=Nat.mul_le_mul_right _ (by omega)
  have hpos:1 * 1 ≤ (li sts).length * (prodL (li ins)):=Nat.mul_le_mul hn.1 hp1
  have m1:IntKind.i64.wrap ((M[j]:Int) * ((prodL (li ins)):Int)) = ((M[j] * (prodL (li ins)):Nat):Int):=by rw [← Int.natCast_mul];exact wrap64 (by omega) (by omega)
  have m2:IntKind.i64.wrap (((M[j] + 1:Nat):Int) * ((prodL (li ins)):Int)) = (((M[j] + 1) * (prodL (li ins)):Nat):Int):=by rw [← Int.natCast_mul];exact wrap64 (by omega) (by omega)
  have hcut:=cut_rows (rows:=rows) hq2 (by omega) (by omega)
  obtain ⟨n1,n2⟩:=addC_ok h (c:=c) hsn (prodL (li ins)) 0 M (by omega) hnd hlt
  have n3:(expA (nxR (li rows) (prodL (li ins))) (addC c) M[j] (prodL (li ins)) 0 M).length ≤ (li sts).length:=pigD (li sts).length _ (nodup_of_map n1) n2
  have hpre:=(expC_pre (nx:=(nxR (li rows) (prodL (li ins)))) (c:=c) M[j] (prodL (li ins)) 0 M)
  have ih':=ih (j + 1) (expA (nxR (li rows) (prodL (li ins))) (addC c) M[j] (prodL (li ins)) 0 M) (accR ++ (List.range' 0 (prodL (li ins))).map fun q => (((pos (c (nxR (li rows) (prodL (li ins)) M[j] q)) ((bfs (prodL (li ins)) (nxR (li rows) (prodL (li ins))) (addC c) d (j + 1) (expA (nxR (li rows) (prodL (li ins))) (addC c) M[j] (prodL (li ins)) 0 M)).map c):Nat):Int),(rowN (li rows) (prodL (li ins)) M[j] q).2.1,())) (by omega) (by have:=hpre.length_le;omega) n1 n2 n3 (by simp;omega)
  have h1:=mof_L1 h (c:=c) hsn x2 (sl S sts) x4 x5 x6 (sl RW rows) x8 x9 (.int .i64 ((j + 1:Nat):Int)) x12 x13 x14 x15 r16 r17 r18 r19 (List.replicate (j + 1) [FV.str []]) (prodL (li ins)) 0 M accR (Nat.sub_zero _) (Nat.zero_le _) hnd hlt hR2 _ (bfs_pre (nx:=(nxR (li rows) (prodL (li ins)))) (p:=(prodL (li ins))) (c:=c) d (j + 1) (expA (nxR (li rows) (prodL (li ins))) (addC c) M[j] (prodL (li ins)) 0 M))
  have hdrop:(bfs (prodL (li ins)) (nxR (li rows) (prodL (li ins))) (addC c) (d + 1) j M).drop j = M[j] :: (bfs (prodL (li ins)) (nxR (li rows) (prodL (li ins))) (addC c) (d + 1) j M).drop (j + 1):=by
   obtain ⟨r,hr⟩:=bfs_pre (nx:=(nxR (li rows) (prodL (li ins)))) (p:=(prodL (li ins))) (c:=c) (d + 1) j M
   have hj2:j < (bfs (prodL (li ins)) (nxR (li rows) (prodL (li ins))) (addC c) (d + 1) j M).length:=by rw [← hr];simp;omega
   rw [List.drop_eq_getElem_cons hj2]
   congr 1
   have:(bfs (prodL (li ins)) (nxR (li rows) (prodL (li ins))) (addC c) (d + 1) j M)[j]? = some M[j]:=by
    rw [← hr,List.getElem?_append_left (by omega)];exact hs
   rw [List.getElem?_eq_getElem hj2] at this
   exact Option.some.inj this
  rw [hdrop,bfs_some hs,mach_minimalOf.L0_eq]
  simp only [NV_len,fBin_eql,Int.ofNat_inj,bindO_s,fUn_not,g,decide_false,Bool.not_false,fCond_b,if_true,q1,q2,fBin_add,w,List.length_replicate,show (j + 1) * 16 ≤ room by unfold room;omega,decide_true,gB_t,fBin_mul,m1,w2,m2,hcut,fLen_arr,show ((((li rows).map RW).take ((M[j] + 1) * (prodL (li ins)))).drop (M[j] * (prodL (li ins)))).length = (prodL (li ins)) from cut_len h hsn]
  rw [show List.replicate j [FV.str []] ++ [[FV.str []]] = List.replicate (j + 1) [FV.str []] by rw [List.replicate_succ']]
  refine Eq.trans h1 (Eq.trans ih' ?_)
  simp [rowsM]
theorem mof_ok (hst0:start = 0):∃ (c:Nat → Nat),(∀ s,s < (li sts).length → ∀ t,t < (li sts).length → (c s = c t ↔ Same (prodL (li ins)) (nxR (li rows) (prodL (li ins))) (syR (li rows) (prodL (li ins))) s t)) ∧
  mach_minimalOf (.agg [.str nm,sl S sts,.int .i64 0,sl P ins,sl P outs,sl RW rows]) = some (.agg [.str nm,.arr (List.replicate (bfs (prodL (li ins)) (nxR (li rows) (prodL (li ins))) (addC c) (li sts).length 0 [0]).length [FV.str []]),.int .i64 0,sl P ins,sl P outs,.arr ((rowsM (li rows) (prodL (li ins)) (fun t => pos (c t) ((bfs (prodL (li ins)) (nxR (li rows) (prodL (li ins))) (addC c) (li sts).length 0 [0]).map c)) (bfs (prodL (li ins)) (nxR (li rows) (prodL (li ins))) (addC c) (li sts).length 0 [0])).map RW)]):=by
 have hn:=h.n1
 have hi8:=h.i8
 have hp4:=p_le h
 have hcap:capP (prodL (li ins)) = (prodL (li ins)):=by unfold capP;rw [if_neg (by omega)]
 obtain ⟨c,r1,r2⟩:=mach_classes_ok h (.str nm) (.int .i64 0) (sl P outs)
 refine ⟨c,r1,?_⟩
 have h0n:0 < (li sts).length:=by omega
 obtain ⟨_,_,u1⟩:=rvec_at (g:=fun t => FV.int .i64 (c t:Int)) h0n
 have zero1:∀ x:FV,([x]:List FV)[0]? = some x:=fun _ => rfl
 have h0:=mof_L0 h (c:=c) (.str nm) (.int .i64 0) (sl P ins) (sl P outs) (.str []) (.int .i64 0) (.str nm) (.int .i64 0) (sl P ins) (sl P outs) [] [] [] [] (li sts).length 0 [0] [] (by omega) (by simp) (by simp) (by simp [h0n]) (by simp;omega) (by simp)
 rw [mach_minimalOf.eq]
 simp only [fIsAgg_agg,List.length_cons,List.length_nil,fCell_zero,fCell_succ,r2,bindO_s,mach_product_ok (show (li ins).length < 1000000000000000 by omega) h.lens,hcap]
 rw [show (0 + 1 + 1 + 1 + 1 + 1 + 1 == 6) = true from rfl,gB_t,show fIdxC 1 (.arr (clsV (li sts).length c)) (.int .i64 0) = _ from u1]
 simp only [bindO_s,zero1]
 rw [show keyOk false [.int] (.int .i64 (c 0:Int)) = true from rfl,gB_t,show mPut false [.int] [] (.int .i64 (c 0:Int)) (.int .i64 0) = some (idxM iK 0 [c 0]) from rfl]
 simp only [bindO_s,show 1 * 8 ≤ room by unfold room;omega,decide_true,gB_t]
 rw [show [[FV.int .i64 0]] = NV [0] by simp [NV,I]]
 refine Eq.trans h0 ?_
 simp
theorem least_ok:∃ (l:List Nat) (c:Nat → Nat),l = bfs (prodL (li ins)) (nxR (li rows) (prodL (li ins))) addR (li sts).length 0 [start.toNat] ∧ (∀ s ∈ l,∀ t ∈ l,c s = c t ↔ Same (prodL (li ins)) (nxR (li rows) (prodL (li ins))) (syR (li rows) (prodL (li ins))) s t) ∧
  ref02_least (.agg [.int .i64 ((prodL (li ins)):Int),nextV (li rows),saysV (li rows)]) (.int .i64 start) = some (.tup [.arr (NV (hd c l)),.arr (clsV (li sts).length fun t => if t ∈ l then pos (c t) ((hd c l).map c) else c t)]):=by
 have hn:=h.n1
 obtain ⟨l,hl,l1,l2,l3,l4,l5⟩:=reached h
 have hne:l ≠ []:=fun e => by rw [e] at l5;have:=l5.length_le;simp at this
 obtain ⟨c,k1,k2,k3⟩:=classes_ok h l2 l3 l4 hne
 refine ⟨l,c,hl,k1,?_⟩
 have hM:∀ s ∈ l,c s ∈ (hd c l).map c:=fun s hs => (mem_hd l _).2 (List.mem_map_of_mem hs)
 have e1:=least_L0 h (c:=c) (.int .i64 ((prodL (li ins)):Int)) (nextV (li rows)) (saysV (li rows)) l2 l3 k2 _ 0 rfl (Nat.zero_le _)
 have e2:=least_L1 h (c:=c) (M:=(hd c l).map c) (.int .i64 ((prodL (li ins)):Int)) (nextV (li rows)) (saysV (li rows)) (seenN (li sts).length ((hd c l).map c)) (NV (hd c l)) l2 l3 l1 k2 hM _ 0 rfl (Nat.zero_le _)
 have hseen:(List.replicate (li sts).length [FV.bool false]) = seenN (li sts).length []:=by rw [rep_rvec];rfl
 have hpl:(List.replicate (li sts).length [FV.int .i64 0]) = plV (li sts).length []:=by rw [rep_rvec];rfl
 rw [ref02_least.eq]
 simp only [fIsAgg_agg,List.length_cons,List.length_nil,fCell_zero,fCell_succ,reach_ok h,bindO_s,← hl,k3,arrRows_arr,clsV_len,asNat_nat,Nat.le_refl,show (li sts).length * 1 ≤ room by unfold room;omega,show (li sts).length * 8 ≤ room by unfold room;omega,decide_true,Bool.and_self,ge_iff_le,gB_t,hseen,hpl]
 rw [show (0 + 1 + 1 + 1 == 3) = true from rfl,gB_t]
 refine Eq.trans e1 ?_
 simpa using e2
theorem flatMin_ok (hst0:start = 0):∃ (H:List Nat) (c g:Nat → Nat),
  (∀ s,s < (li sts).length → ∀ t,t < (li sts).length → (c s = c t ↔ Same (prodL (li ins)) (nxR (li rows) (prodL (li ins))) (syR (li rows) (prodL (li ins))) s t)) ∧ (H.map c).Nodup ∧ (∀ x ∈ H,x < (li sts).length) ∧ H.length ≤ (li sts).length ∧ (∀ x ∈ H,∀ k,k < (prodL (li ins)) → c ((nxR (li rows) (prodL (li ins))) x k) ∈ H.map c) ∧ H[0]? = some 0 ∧
  ref02_least (.agg [.int .i64 ((prodL (li ins)):Int),nextV (li rows),saysV (li rows)]) (.int .i64 0) = some (.tup [.arr (NV H),.arr (clsV (li sts).length g)]) ∧
  ref02_rowsOf (.agg [.int .i64 ((prodL (li ins)):Int),nextV (li rows),saysV (li rows)]) (.arr (NV H)) (.arr (clsV (li sts).length g)) = some (.arr ((rowsL (li rows) (prodL (li ins)) (fun t => pos (c t) (H.map c)) H).map RW)) ∧
  mach_minimalOf (.agg [.str nm,sl S sts,.int .i64 0,sl P ins,sl P outs,sl RW rows]) = some (.agg [.str nm,.arr (List.replicate H.length [FV.str []]),.int .i64 0,sl P ins,sl P outs,.arr ((rowsM (li rows) (prodL (li ins)) (fun t => pos (c t) (H.map c)) H).map RW)]):=by
 subst hst0
 obtain ⟨l,hl,l1,l2,l3,l4,l5⟩:=reached h
 obtain ⟨l',c1,e1,r1,r2⟩:=least_ok h
 obtain ⟨c,m1,m2⟩:=mof_ok (nm:=nm) h rfl
 have hsn:0 < (li sts).length:=h.n1.1
 rw [← hl] at e1
 subst e1
 have hb:=bfs_heads (nx_lt h) (c:=c) (fun x hx y hy e k hk => (m1 _ (nx_lt h x hx k hk) _ (nx_lt h y hy k hk)).2 (((m1 x hx y hy).1 e).step hk).2) hsn
 rw [show (Int.toNat 0) = 0 from rfl] at hl l5
 rw [← hl] at hb
 rw [← hb] at m2
 have hHl:∀ x ∈ hd c l',x ∈ l':=fun x hx => (hd_sub l' [] x hx).elim (fun e => by cases e) id
 have hU:∀ a ∈ l',∀ b ∈ l',c1 a = c1 b ↔ c a = c b:=fun a ha b hb => (r1 a ha b hb).trans (m1 a (l2 a ha) b (l2 b hb)).symm
 have hh:hd c1 l' = hd c l':=hd_congr hU l' [] (by simp) (fun x hx => hx)
 have hHn:(hd c l').length ≤ (li sts).length:=by
  have:=hd_len (c:=c) l' []
  simp only [List.length_nil,Nat.zero_add] at this
  unfold hd;omega
 refine ⟨hd c l',c,_,m1,hd_nodup l',fun x hx => l2 x (hHl x hx),hHn,fun x hx k hk => (mem_hd l' _).2 (List.mem_map_of_mem (l4 x (hHl x hx) k hk)),?_,by rw [r2,hh],?_,m2⟩
 ·obtain ⟨r,hr⟩:=l5
  have hp:=hd_pre (c:=c) [0] r
  rw [hr] at hp
  obtain ⟨r2,hr2⟩:=hp
  rw [← hr2]
  simp [hd,addC]
 ·rw [rowsOf_ok h (fun x hx => l2 x (hHl x hx)) hHn]
  rw [rowsL_congr h (g':=fun t => pos (c t) ((hd c l').map c)) (fun s hs k hk => by
   rw [if_pos (l4 s (hHl s hs) k hk)]
   exact pos_congr hU (l4 s (hHl s hs) k hk) _ hHl)]
end
end Go.Proofs.Ytelcbakleaaneaa
end
