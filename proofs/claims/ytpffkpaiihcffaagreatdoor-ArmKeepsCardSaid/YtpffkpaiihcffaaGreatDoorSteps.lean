/- Steps that turn memory. -/
import Derived.Test.YtpffkpaiihcffaaGreatDoorFops
import Derived.Deep.Upon
set_option linter.unusedVariables false
set_option linter.unusedSimpArgs false
namespace Go.Proofs.YtpffkpaiihcffaaGreatDoor.VM
open Go Go.RowKit
theorem cell_at {w : World} {b : Nat} {c : Array Value} {e : TypeId} {fr : Nat × Nat} (h : w.heap[b]? = some (.cells c e fr)) (k : Nat) : w.cell? ⟨b,k,none⟩ = c[k]?:=by simp [World.cell?,h]
theorem frozen_at {w : World} {b : Nat} {c : Array Value} {e : TypeId} (h : w.heap[b]? = some (.cells c e (0,0))) (k : Nat) : w.frozen? ⟨b,k,none⟩ = false:=by simp [World.frozen?,h]
theorem set_block {w : World} {b : Nat} {c : Array Value} {e : TypeId} {fr : Nat × Nat} (h : w.heap[b]? = some (.cells c e fr)) (k : Nat) (v : Value) : (w.setCell ⟨b,k,none⟩ v).heap[b]? = some (.cells (c.setIfInBounds k v) e fr):=by
 simp [World.setCell,Array.getElem?_modify,h]
theorem set_other {w : World} {b b' : Nat} (k : Nat) (v : Value) (h : b' ≠ b) : (w.setCell ⟨b,k,none⟩ v).heap[b']? = w.heap[b']?:=by
 simp only [World.setCell,Array.getElem?_modify];rw [if_neg (Ne.symm h)]
theorem set_size (w : World) (a : Addr) (v : Value) : (w.setCell a v).heap.size = w.heap.size:=by simp [World.setCell]
theorem setCells_size (b : Nat) : ∀ (vs : List Value) (o : Nat) (w : World),(w.setCells b o vs).heap.size = w.heap.size
 | [],_,_ => rfl
 | v :: vs,o,w => by rw [World.setCells,setCells_size b vs (o + 1),set_size]
theorem setCells_other (b b' : Nat) (h : b' ≠ b) : ∀ (vs : List Value) (o : Nat) (w : World),(w.setCells b o vs).heap[b']? = w.heap[b']?
 | [],_,_ => rfl
 | v :: vs,o,w => by rw [World.setCells,setCells_other b b' h vs (o + 1),set_other _ _ h]
theorem setCells_block (b : Nat) {e : TypeId} {fr : Nat × Nat} : ∀ (vs : List Value) (o : Nat) (w : World) (c : Array Value),w.heap[b]? = some (.cells c e fr) → o + vs.length ≤ c.size →
  ∃ c',(w.setCells b o vs).heap[b]? = some (.cells c' e fr) ∧ c'.size = c.size ∧ ∀ j,c'[j]? = if o ≤ j ∧ j < o + vs.length then vs[j - o]? else c[j]?
 | [],o,w,c,h,_ => ⟨c,h,rfl,fun j => by rw [if_neg (by simp)]⟩
 | v :: vs,o,w,c,h,hf => by
  rw [World.setCells]
  simp only [List.length_cons] at hf
  obtain ⟨c',h1,h2,h3⟩:=setCells_block b vs (o + 1) (w.setCell ⟨b,o,none⟩ v) (c.setIfInBounds o v) (set_block h o v) (by simp;omega)
  refine ⟨c',h1,by rw [h2];simp,fun j => ?_⟩
  rw [h3]
  by_cases hj : o + 1 ≤ j ∧ j < o + 1 + vs.length
  ·rw [if_pos hj,if_pos (by simp;omega)]
   obtain ⟨m,rfl⟩ : ∃ m,j = o + 1 + m:=⟨j - (o + 1),by omega⟩
   rw [show o + 1 + m - (o + 1) = m by omega,show o + 1 + m - o = m + 1 by omega]
   rfl
  ·rw [if_neg hj]
   by_cases ho : j = o
   ·subst ho
    rw [if_pos (by simp),Array.getElem?_setIfInBounds]
    simp
    omega
   ·rw [if_neg (by simp;omega),Array.getElem?_setIfInBounds,if_neg (by omega)]
theorem setCells_os (b : Nat) : ∀ (vs : List Value) (o : Nat) (w : World),(w.setCells b o vs).os = w.os ∧ (w.setCells b o vs).tape = w.tape ∧ (w.setCells b o vs).output = w.output
 | [],_,_ => ⟨rfl,rfl,rfl⟩
 | v :: vs,o,w => by rw [World.setCells];exact setCells_os b vs (o + 1) _
section
variable {P : Program}
theorem run_setCells (b o : Nat) {c : Array Value} {e : TypeId} (w : World) (vs : List Value) (h : w.heap[b]? = some (.cells c e (0,0))) (hf : o + vs.length ≤ c.size) (h1 : ∀ v ∈ vs,v.oneCell' = true) :
  (storeCells ⟨b,o,none⟩ vs).run P w = .ok () (w.setCells b o vs):=by
 have:=run_storeCells_cells (P:=P) b o vs 0 w (by intro j hj;rw [cell_at h];simp;omega) (by intro j hj;exact frozen_at h _) h1
 simpa using this
end
section
variable {L : List (Fr × Act)} {B0 : Nat} {G T : Nat → Prop} {w w0 : World} {A : Nat → Prop} {β : LocOf} {H : Hp}
def locSet (β : LocOf) (id : Nat) (l : Loc) : LocOf:=fun i => if i = id then l else β i
theorem locSet_new (β : LocOf) (id : Nat) (l : Loc) : locSet β id l id = l:=by simp [locSet]
theorem locSet_old (β : LocOf) {id i : Nat} (l : Loc) (h : i ≠ id) : locSet β id l i = β i:=by simp [locSet,h]
theorem rowsOf_append {H : Hp} {id : Nat} {r : List (List FV)} (h : rowsOf H id = some r) (K : Hp) : rowsOf (H ++ K) id = some r:=by
 have hl:=rowsOf_lt h
 unfold rowsOf at h ⊢
 rw [List.getElem?_append_left hl];exact h
structure Grows (w w' : World) : Prop where
 os : w'.os = w.os
 tape : w'.tape = w.tape
 output : w'.output = w.output
 size : w.heap.size ≤ w'.heap.size
 block : ∀ k,k < w.heap.size → w'.heap[k]? = w.heap[k]?
theorem Grows.refl (w : World) : Grows w w:=⟨rfl,rfl,rfl,Nat.le_refl _,fun _ _ => rfl⟩
theorem Grows.trans {w1 w2 w3 : World} (h : Grows w1 w2) (k : Grows w2 w3) : Grows w1 w3 :=
 ⟨k.os.trans h.os,k.tape.trans h.tape,k.output.trans h.output,Nat.le_trans h.size k.size,fun i hi => (k.block i (Nat.lt_of_lt_of_le hi h.size)).trans (h.block i hi)⟩
theorem Grows.alloc (w : World) (o : Obj) : Grows w (w.alloc o):=⟨rfl,rfl,rfl,by show w.heap.size ≤ (w.heap.push o).size;simp,fun k hk => Below.heap_alloc w o k hk⟩
theorem Grows.drew (w : World) : Grows w w.drew:=⟨rfl,rfl,rfl,Nat.le_refl _,fun _ _ => rfl⟩
theorem Grows.below {w w' : World} (h : Grows w w') {B : Nat} (hb : Belowx G B w0 w) (hB : B ≤ w.heap.size) : Belowx G B w0 w' :=
 hb.trans ⟨h.os,h.tape,h.output,h.size,fun k hk _ => h.block k (Nat.lt_of_lt_of_le hk hB)⟩
theorem Grows.fext {w w' : World} (h : Grows w w') (hlt : ∀ b,A b → b < w.heap.size) : FExt w A w' A:=⟨fun _ h => h,fun b hb => h.block b (hlt b hb)⟩
theorem HRel.grow {w' : World} {A' : Nat → Prop} (h : HRel B0 G T w A β H) (g : Grows w w') (hsub : ∀ b,A b → A' b) (hA' : ∀ b,A' b → A b ∨ (w.heap.size ≤ b ∧ b < w'.heap.size)) :
  HRel B0 G T w' A' β H:=by
 have fe : FExt w A w' A':=⟨hsub,fun b hb => g.block b (h.lt b hb)⟩
 refine ⟨?_,h.inj,?_,?_,?_,h.gt,Nat.le_trans h.base g.size,fun b hb => hsub b (h.top b hb)⟩
 ·intro id k hk
  by_cases hd : k = .dead
  ·subst hd;trivial
  ·have hb:=h.blk id k hk
   exact hb.mono fe (HExt.refl β H) g.size fun b hl => g.block b (hb.block_lt h.lt hd b hl)
 ·intro id b o s cap k hk ha hl
  have ho:=h.ours id b o s cap k hk ha hl
  refine ⟨ho.1,fun hA => ?_⟩
  rcases hA' b hA with h1 | ⟨h1,_⟩
  ·exact ho.2 h1
  ·have hb:=(h.blk id k hk).block_lt h.lt (by intro e;subst e;cases ha) b (by rw [hl];rfl)
   omega
 ·intro b hb
  rcases hA' b hb with h1 | ⟨_,h1⟩
  ·exact Nat.lt_of_lt_of_le (h.lt b h1) g.size
  ·exact h1
 ·intro b hb hlow
  rcases hA' b hb with h1 | ⟨h1,_⟩
  ·exact h.low b h1 hlow
  ·have:=h.base;omega
theorem frees_get (n i : Nat) (k : Blk) (h : (frees n)[i]? = some k) : k = .free:=by
 induction n generalizing i with
 | zero => cases h
 | succ n ih =>
  cases i with
  | zero => cases h;rfl
  | succ i => exact ih i h
def locCut (β : LocOf) (n : Nat) : LocOf:=fun i => if i < n then β i else .no
theorem frees_rel (h : HRel B0 G T w A β H) (n : Nat) : HExt β H (locCut β H.length) (H ++ frees n) ∧ HRel B0 G T w A (locCut β H.length) (H ++ frees n):=by
 have hlt : ∀ {i : Nat},i < H.length → locCut β H.length i = β i:=fun hi => by simp [locCut,hi]
 have he : HExt β H (locCut β H.length) (H ++ frees n):=by
  refine ⟨fun id hl _ => hlt hl,by simp,fun id r hr => .inl ⟨r,rowsOf_append hr _,rfl⟩,fun id hd => ?_⟩
  rw [List.getElem?_append_left (List.getElem?_eq_some_iff.1 hd).1];exact hd
 have split : ∀ (i : Nat) k,(H ++ frees n)[i]? = some k → (H[i]? = some k ∧ i < H.length) ∨ (k = .free ∧ ¬ i < H.length):=by
  intro i k hk
  rw [List.getElem?_append] at hk
  split at hk
  ·exact .inl ⟨hk,by assumption⟩
  ·exact .inr ⟨frees_get _ _ _ hk,by assumption⟩
 refine ⟨he,⟨?_,?_,?_,h.lt,h.low,h.gt,h.base,h.top⟩⟩
 ·intro i k hk
  rcases split i k hk with ⟨h1,h2⟩ | ⟨rfl,h2⟩
  ·rw [hlt h2];exact (h.blk i k h1).mono (FExt.refl w A) he (Nat.le_refl _) fun _ _ => rfl
  ·simp [locCut,h2,BRel]
 ·intro i i' b o s cap o' s' cap' k k' hi hi' ha ha' hl hl'
  rcases split i k hi with ⟨h1,h2⟩ | ⟨rfl,h2⟩
  ·rcases split i' k' hi' with ⟨h3,h4⟩ | ⟨rfl,h4⟩
   ·rw [hlt h2] at hl;rw [hlt h4] at hl'
    exact h.inj i i' b o s cap o' s' cap' k k' h1 h3 ha ha' hl hl'
   ·cases ha'
  ·cases ha
 ·intro i b o s cap k hi ha hl
  rcases split i k hi with ⟨h1,h2⟩ | ⟨rfl,h2⟩
  ·rw [hlt h2] at hl;exact h.ours i b o s cap k h1 ha hl
  ·cases ha
theorem HExt.fill {id : Nat} (hk : H[id]? = some .free) (hn : β id = .no) (k : Blk) (l : Loc) : HExt β H (locSet β id l) (H.set id k) where
 loc i hi hne:=locSet_old β l (fun e => hne (e ▸ hn))
 len:=by simp
 rows i r hr:=by
  refine .inl ⟨r,?_,rfl⟩
  unfold rowsOf at hr ⊢
  rw [get_set_hp]
  by_cases e : id = i
  ·subst e;rw [hk] at hr;cases hr
  ·rw [if_neg (fun q => e q.1)];exact hr
 dead i hd:=by
  rw [get_set_hp]
  by_cases e : id = i
  ·subst e;rw [hk] at hd;cases hd
  ·rw [if_neg (fun q => e q.1)];exact hd
theorem HRel.fill {id : Nat} {k : Blk} {l : Loc} (h : HRel B0 G T w A β H) (hf : H[id]? = some .free) (hk : BRel w A (locSet β id l) (H.set id k) l k)
  (hfresh : ∀ b o s cap,l = .at b o s cap → k.alive = true → (B0 ≤ b ∨ G b) ∧ ¬ A b ∧ ∀ id' b' o' s' cap' k',H[id']? = some k' → k'.alive = true → β id' = .at b' o' s' cap' → b' ≠ b) :
  HExt β H (locSet β id l) (H.set id k) ∧ HRel B0 G T w A (locSet β id l) (H.set id k):=by
 have hn : β id = .no:=h.blk id _ hf
 have hlen : id < H.length:=(List.getElem?_eq_some_iff.1 hf).1
 have he:=HExt.fill hf hn k l
 have split : ∀ (i : Nat) x,(H.set id k)[i]? = some x → (H[i]? = some x ∧ i ≠ id) ∨ (i = id ∧ x = k):=by
  intro i x hx
  rw [get_set_hp] at hx
  by_cases e : id = i
  ·subst e;rw [if_pos ⟨rfl,hlen⟩] at hx;cases hx;exact .inr ⟨rfl,rfl⟩
  ·rw [if_neg (fun q => e q.1)] at hx;exact .inl ⟨hx,Ne.symm e⟩
 refine ⟨he,⟨?_,?_,?_,h.lt,h.low,h.gt,h.base,h.top⟩⟩
 ·intro i x hx
  rcases split i x hx with ⟨h1,h2⟩ | ⟨rfl,rfl⟩
  ·rw [locSet_old β l h2]
   exact (h.blk i x h1).mono (FExt.refl w A) he (Nat.le_refl _) fun _ _ => rfl
  ·rw [locSet_new];exact hk
 ·intro i i' b o s cap o' s' cap' x x' hx hx' ha ha' hl hl'
  rcases split i x hx with ⟨h1,h2⟩ | ⟨rfl,rfl⟩
  ·rcases split i' x' hx' with ⟨h3,h4⟩ | ⟨rfl,rfl⟩
   ·rw [locSet_old β l h2] at hl;rw [locSet_old β l h4] at hl'
    exact h.inj i i' b o s cap o' s' cap' x x' h1 h3 ha ha' hl hl'
   ·rw [locSet_old β l h2] at hl;rw [locSet_new] at hl'
    exact absurd rfl ((hfresh b o' s' cap' hl' ha').2.2 i b o s cap x h1 ha hl)
  ·rcases split i' x' hx' with ⟨h3,h4⟩ | ⟨rfl,rfl⟩
   ·rw [locSet_new] at hl;rw [locSet_old β l h4] at hl'
    exact absurd rfl ((hfresh b o s cap hl ha).2.2 i' b o' s' cap' x' h3 ha' hl')
   ·rfl
 ·intro i b o s cap x hx ha hl
  rcases split i x hx with ⟨h1,h2⟩ | ⟨rfl,rfl⟩
  ·rw [locSet_old β l h2] at hl
   exact h.ours i b o s cap x h1 ha hl
  ·rw [locSet_new] at hl
   exact ⟨(hfresh b o s cap hl ha).1,(hfresh b o s cap hl ha).2.1⟩
theorem HRel.turn {w' : World} {id b o s cap : Nat} {k k' : Blk} (h : HRel B0 G T w A β H) (hk : H[id]? = some k) (ha : k.alive = true) (hl : β id = .at b o s cap) (hold : ∀ (i : Nat) r,H[i]? ≠ some (.old r))
  (hsz : w'.heap.size = w.heap.size) (hoth : ∀ b',b' ≠ b → w'.heap[b']? = w.heap[b']?) (he : HExt β H β (H.set id k')) (ha' : k'.alive = true) (hb : BRel w' A β (H.set id k') (.at b o s cap) k') :
  FExt w A w' A ∧ HRel B0 G T w' A β (H.set id k'):=by
 have hlt : id < H.length:=(List.getElem?_eq_some_iff.1 hk).1
 have fe : FExt w A w' A:=⟨fun _ h => h,fun b' hb' => hoth b' (fun e => (h.ours id b o s cap k hk ha hl).2 (e ▸ hb'))⟩
 refine ⟨fe,⟨?_,?_,?_,fun b' hb' => by rw [hsz];exact h.lt b' hb',h.low,h.gt,by rw [hsz];exact h.base,h.top⟩⟩
 ·intro i x hx
  rw [get_set_hp] at hx
  by_cases e : id = i
  ·subst e
   rw [if_pos ⟨rfl,hlt⟩] at hx;cases hx
   rw [hl];exact hb
  ·rw [if_neg (fun q => e q.1)] at hx
   by_cases hd : x = .dead
   ·subst hd;trivial
   refine (h.blk i x hx).mono fe he (by omega) fun b' hb' => ?_
   cases hli : β i with
   | no => rw [hli] at hb';cases hb'
   | nil => rw [hli] at hb';cases hb'
   | «at» b2 o2 s2 cap2 =>
    rw [hli] at hb';cases hb'
    refine hoth _ fun e2 => ?_
    subst e2
    cases x with
    | dead => exact hd rfl
    | free => have q : β i = .no:=h.blk i _ hx;rw [q] at hli;cases hli
    | own s0 r => exact e (h.inj id i _ _ _ _ _ _ _ _ _ hk hx ha rfl hl hli)
    | old r => exact hold i r hx
    | fz r =>
     rcases h.blk i _ hx with ⟨h1,_⟩ | ⟨b3,o3,s3,cap3,h1,_,_,_,h2⟩
     ·rw [h1] at hli;cases hli
     ·rw [h1] at hli;cases hli;exact (h.ours id _ _ _ _ k hk ha hl).2 h2
    | box r => exact e (h.inj id i _ _ _ _ _ _ _ _ _ hk hx ha rfl hl hli)
    | fzb r =>
     obtain ⟨b3,s3,h1,h2,_⟩:=h.blk i _ hx
     rw [h1] at hli;cases hli;exact (h.ours id _ _ _ _ k hk ha hl).2 h2
    | map ag r => exact e (h.inj id i _ _ _ _ _ _ _ _ _ hk hx ha rfl hl hli)
    | sit a c => exact e (h.inj id i _ _ _ _ _ _ _ _ _ hk hx ha rfl hl hli)
 ·intro i i' b1 o1 s1 cap1 o1' s1' cap1' x x' hx hx' hax hax' hlx hlx'
  rw [get_set_hp] at hx hx'
  by_cases e : id = i
  ·by_cases e' : id = i'
   ·omega
   ·subst e
    rw [if_neg (fun q => e' q.1)] at hx'
    exact h.inj id i' b1 o1 s1 cap1 o1' s1' cap1' k x' hk hx' ha hax' hlx hlx'
  ·rw [if_neg (fun q => e q.1)] at hx
   by_cases e' : id = i'
   ·subst e'
    exact h.inj i id b1 o1 s1 cap1 o1' s1' cap1' x k hx hk hax ha hlx hlx'
   ·rw [if_neg (fun q => e' q.1)] at hx'
    exact h.inj i i' b1 o1 s1 cap1 o1' s1' cap1' x x' hx hx' hax hax' hlx hlx'
 ·intro i b1 o1 s1 cap1 x hx hax hlx
  rw [get_set_hp] at hx
  by_cases e : id = i
  ·subst e;exact h.ours id b1 o1 s1 cap1 k hk ha hlx
  ·rw [if_neg (fun q => e q.1)] at hx
   exact h.ours i b1 o1 s1 cap1 x hx hax hlx
end
end Go.Proofs.YtpffkpaiihcffaaGreatDoor.VM
