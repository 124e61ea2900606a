/- Results of calls: how the callee hands them out, how the caller takes them in. -/
import Derived.Test.YtpffkpaiihcffaaGreatDoorOpsX
set_option linter.unusedVariables false
set_option linter.unusedSimpArgs false
set_option linter.unusedSectionVars false
namespace Go.Proofs.YtpffkpaiihcffaaGreatDoor.VM
open Go Go.RowKit
def OwnedV (w : World) (A : Nat → Prop) (s : Nat) (x : FV) (c : Value) (obs : List Nat) : Prop :=
 ∃ rows,x = .arr rows ∧ ((∃ ad,c = .slice ad 0 0 ∧ rows = [] ∧ obs = []) ∨
  ∃ b o cap,c = .slice (some ⟨b,o,none⟩) rows.length cap ∧ obs = [b] ∧ 0 < s ∧ rows.length ≤ cap ∧ cap ≤ maxLen ∧ RowsAt w A b o s rows ∧ ∃ cc e,w.heap[b]? = some (.cells cc e (0,0)) ∧ o + cap * s ≤ cc.size)
def OwnCells (w : World) (A : Nat → Prop) (js : List (Nat × Nat)) : Nat → List FV → List Value → List Nat → Prop
 | _,[],[],obs => obs = []
 | j,x :: xs,c :: cs,obs => ∃ o1 o2,obs = o1 ++ o2 ∧ (match ownAt js j with | some s => OwnedV w A s x c o1 | none => FR w A x c ∧ c.oneCell' = true ∧ o1 = []) ∧ OwnCells w A js (j + 1) xs cs o2
 | _,_,_,_ => False
def ResOne (E : Env) (w : World) (A : Nat → Prop) (js : List (Nat × Nat)) (t : Nat) (x : FV) (c : Value) (obs : List Nat) : Prop:=match js with
 | [] => FR w A x c ∧ ((E.ty t).isAgg = false → c.oneCell' = true) ∧ obs = []
 | j :: _ => match (E.ty t).isAgg with
  | true => ∃ xs cs,x = .agg xs ∧ c = .agg cs.toArray ∧ OwnCells w A js 0 xs cs obs
  | false => OwnedV w A j.2 x c obs
def ResAll (E : Env) (w : World) (A : Nat → Prop) (own : List (Nat × Nat × Nat)) : Nat → List Nat → List FV → List Value → List Nat → Prop
 | _,[],[],[],obs => obs = []
 | i,t :: ts,x :: xs,c :: cs,obs => ∃ o1 o2,obs = o1 ++ o2 ∧ ResOne E w A (ownJ own i) t x c o1 ∧ ResAll E w A own (i + 1) ts xs cs o2
 | _,_,_,_,_ => False
section
variable {P : Program} {E : Env} {L : List (Fr × Act)} {B0 : Nat} {G T : Nat → Prop} {w0 w w' : World} {A A' : Nat → Prop} {β : LocOf} {H : Hp} {F : Fr} {a : Act} {res : FV}
theorem OwnedV.mono {s : Nat} {x : FV} {c : Value} {obs : List Nat} (h : OwnedV w A s x c obs) (e : FExt w A w' A') (hb : ∀ b ∈ obs,w'.heap[b]? = w.heap[b]?) : OwnedV w' A' s x c obs:=by
 obtain ⟨rows,h1,h2⟩:=h
 refine ⟨rows,h1,?_⟩
 rcases h2 with h2 | ⟨b,o,cap,g1,g2,g3,g4,g5,g6,cc,ce,g7,g8⟩
 ·exact .inl h2
 ·have hq:=hb b (by rw [g2];simp)
  exact .inr ⟨b,o,cap,g1,g2,g3,g4,g5,g6.mono e hq,cc,ce,by rw [hq];exact g7,g8⟩
def blocksOf (β : LocOf) (ids : List Nat) : List Nat:=ids.filterMap fun id => (β id).block
theorem blocksOf_append (β : LocOf) (a b : List Nat) : blocksOf β (a ++ b) = blocksOf β a ++ blocksOf β b:=by simp [blocksOf]
theorem ownOut_rel {s : Nat} {v : V} {c : Value} {x : FV} {K : Hp} (h : ownOut H s v = some x) (hv : VR w A β K v c) (hp : HRel B0 G T w A β K) (hK : ∀ id ∈ idsV 1 v,K[id]? = H[id]?) : OwnedV w A s x c (blocksOf β (idsV 1 v)) ∧ (∀ id ∈ idsV 1 v,∃ q r,K[id]? = some (Blk.own q r)):=by
 unfold ownOut at h
 split at h
 ·rename_i id
  split at h
  ·rename_i s' r hid
   replace h:=gB_some h
   obtain ⟨hs,h⟩:=h
   have hs':=Nat.eq_of_beq_eq_true hs
   subst hs'
   cases h
   have hKid : K[id]? = some (Blk.own s' r):=by rw [hK id (by simp [idsV])];exact hid
   refine ⟨⟨r,rfl,?_⟩,fun i hi => ?_⟩
   ·cases hv with
    | refDead _ _ hd => rw [hKid] at hd;cases hd
    | refNil _ ad hb hr =>
     have : r = []:=by unfold rowsOf at hr;rw [hKid] at hr;cases hr;rfl
     exact .inl ⟨ad,rfl,this,by simp [blocksOf,idsV,hb,Loc.block]⟩
    | refAt _ b o sz cap n hb rows hr hn =>
     have : rows = r:=by unfold rowsOf at hr;rw [hKid] at hr;cases hr;rfl
     subst this;subst hn
     rcases hp.blk id _ hKid with ⟨h0,_⟩ | ⟨b2,o2,cap2,h3,h4,h5,h6,h7,cc,ce,h8,h9⟩
     ·rw [hb] at h0;cases h0
     rw [hb] at h3;cases h3
     exact .inr ⟨b,o,cap,rfl,by simp [blocksOf,idsV,hb,Loc.block],h4,h5,h6,h7,cc,ce,h8,h9⟩
   ·simp [idsV] at hi;subst hi;exact ⟨_,_,hKid⟩
  ·cases h
 ·cases h
  obtain ⟨hc,_⟩:=hv.f'
  cases hc with
  | nilS ad => exact ⟨⟨[],rfl,.inl ⟨ad,rfl,rfl,by simp [blocksOf,idsV]⟩⟩,by simp [idsV]⟩
 ·cases h
theorem ownCells_rel {js : List (Nat × Nat)} {K : Hp} {A1 : Nat → Prop} (hp : HRel B0 G T w A β H) (fe : FExt w A w A1) (hp1 : HRel B0 G T w A1 β K) (he : HExt β H β K) : ∀ (j : Nat) (vs : List V) (cs : List Value) (xs : List FV),vs.length = cs.length → (∀ (k : Nat) v c,vs[k]? = some v → cs[k]? = some c → VR w A β H v c) →
  ownCells H js j vs = some xs → (∀ id ∈ (cellIds js j vs).2,InA β H A1 id) → (∀ id ∈ (cellIds js j vs).1,K[id]? = H[id]?) → OwnCells w A1 js j xs cs (blocksOf β (cellIds js j vs).1) ∧ (∀ id ∈ (cellIds js j vs).1,∃ q r,K[id]? = some (Blk.own q r))
 | j,[],cs,xs,hl,hv,h,hin,hK => by
  cases h
  have : cs = []:=List.eq_nil_of_length_eq_zero (by simpa using hl.symm)
  subst this
  exact ⟨rfl,by simp [cellIds]⟩
 | j,v :: vs,cs,xs,hl,hv,h,hin,hK => by
  cases cs with
  | nil => simp at hl
  | cons c cs =>
   simp only [ownCells] at h
   split at h
   ·rename_i x hx
    split at h
    ·rename_i xs' hxs
     cases h
     have h0:=hv 0 v c rfl rfl
     cases hj : ownAt js j with
     | some s =>
      have e1 : cellIds js j (v :: vs) = (idsV 1 v ++ (cellIds js (j + 1) vs).1,(cellIds js (j + 1) vs).2):=by simp [cellIds,hj]
      rw [e1] at hin hK ⊢
      rw [hj] at hx
      obtain ⟨q1,q2⟩:=ownOut_rel hx (h0.mono fe he) hp1 (fun id hi => hK id (List.mem_append_left _ hi))
      obtain ⟨q3,q4⟩:=ownCells_rel hp fe hp1 he (j + 1) vs cs xs' (by simpa using hl) (fun k v c hv' hc => hv (k + 1) v c hv' hc) hxs hin (fun id hi => hK id (List.mem_append_right _ hi))
      refine ⟨⟨_,_,blocksOf_append _ _ _,by rw [hj];exact q1,q3⟩,fun id hi => ?_⟩
      rcases List.mem_append.1 hi with h5 | h5
      ·exact q2 id h5
      ·exact q4 id h5
     | none =>
      have e1 : cellIds js j (v :: vs) = ((cellIds js (j + 1) vs).1,idsV 3 v ++ (cellIds js (j + 1) vs).2):=by simp [cellIds,hj]
      rw [e1] at hin hK ⊢
      rw [hj] at hx
      obtain ⟨q3,q4⟩:=ownCells_rel hp fe hp1 he (j + 1) vs cs xs' (by simpa using hl) (fun k v c hv' hc => hv (k + 1) v c hv' hc) hxs (fun id hi => hin id (List.mem_append_right _ hi)) hK
      simp only at hx
      split at hx
      ·rename_i hone
       cases hx
       exact ⟨⟨[],_,rfl,by rw [hj];exact ⟨frzC_rel hp fe h0 (fun id hi => hin id (List.mem_append_left _ hi)),h0.one hone,rfl⟩,q3⟩,q4⟩
      ·cases hx
    ·cases h
   ·cases h
theorem outOne_rel {js : List (Nat × Nat)} {t : Nat} {K : Hp} {A1 : Nat → Prop} {v : V} {c : Value} {x : FV} (hp : HRel B0 G T w A β H) (fe : FExt w A w A1) (hp1 : HRel B0 G T w A1 β K) (he : HExt β H β K) (hv : VR w A β H v c) (h : outOne E H js t v = some x)
  (hin : ∀ id ∈ (oneIds js (E.ty t).isAgg v).2,InA β H A1 id) (hK : ∀ id ∈ (oneIds js (E.ty t).isAgg v).1,K[id]? = H[id]?) : ResOne E w A1 js t x c (blocksOf β (oneIds js (E.ty t).isAgg v).1) ∧ (∀ id ∈ (oneIds js (E.ty t).isAgg v).1,∃ q r,K[id]? = some (Blk.own q r)):=by
 cases js with
 | nil =>
  simp only [outOne] at h
  split at h
  ·rename_i hfit
   cases h
   exact ⟨⟨frz_rel hp fe hv hin,fits_one hfit hv,rfl⟩,by simp [oneIds]⟩
  ·cases h
 | cons j js =>
  simp only [outOne] at h
  cases ha : (E.ty t).isAgg with
  | true =>
   rw [ha] at h hin hK
   simp only at h
   split at h
   ·rename_i vs
    split at h
    ·rename_i xs hxs
     cases h
     cases hv with
     | agg _ us hl hx =>
      obtain ⟨q1,q2⟩:=ownCells_rel hp fe hp1 he 0 vs us xs hl hx hxs hin hK
      refine ⟨?_,q2⟩
      simp only [ResOne,ha]
      exact ⟨xs,us,rfl,rfl,q1⟩
    ·cases h
   ·cases h
  | false =>
   rw [ha] at h hin hK
   simp only at h
   obtain ⟨q1,q2⟩:=ownOut_rel h (hv.mono fe he) hp1 hK
   refine ⟨?_,q2⟩
   simp only [ResOne,ha]
   exact q1
theorem outV_rel {own : List (Nat × Nat × Nat)} {K : Hp} {A1 : Nat → Prop} (hp : HRel B0 G T w A β H) (fe : FExt w A w A1) (hp1 : HRel B0 G T w A1 β K) (he : HExt β H β K) : ∀ (i : Nat) (ts : List Nat) (vs : List V) (cs : List Value) (xs : List FV),vs.length = cs.length → (∀ (k : Nat) v c,vs[k]? = some v → cs[k]? = some c → VR w A β H v c) →
  outV E H own i ts vs = some xs → (∀ id ∈ (resIds E own i ts vs).2,InA β H A1 id) → (∀ id ∈ (resIds E own i ts vs).1,K[id]? = H[id]?) →
  ResAll E w A1 own i ts xs cs (blocksOf β (resIds E own i ts vs).1) ∧ (∀ id ∈ (resIds E own i ts vs).1,∃ q r,K[id]? = some (Blk.own q r))
 | i,[],[],cs,xs,hl,hv,h,hin,hK => by
  cases h
  have : cs = []:=List.eq_nil_of_length_eq_zero (by simpa using hl.symm)
  subst this
  exact ⟨rfl,by simp [resIds]⟩
 | i,t :: ts,v :: vs,cs,xs,hl,hv,h,hin,hK => by
  cases cs with
  | nil => simp at hl
  | cons c cs =>
   simp only [outV] at h
   split at h
   ·rename_i x hx
    split at h
    ·rename_i xs' hxs
     cases h
     simp only [resIds] at hin hK ⊢
     obtain ⟨q1,q2⟩:=outOne_rel hp fe hp1 he (hv 0 v c rfl rfl) hx (fun id hi => hin id (List.mem_append_left _ hi)) (fun id hi => hK id (List.mem_append_left _ hi))
     obtain ⟨q3,q4⟩:=outV_rel hp fe hp1 he (i + 1) ts vs cs xs' (by simpa using hl) (fun k v c hv' hc => hv (k + 1) v c hv' hc) hxs (fun id hi => hin id (List.mem_append_right _ hi)) (fun id hi => hK id (List.mem_append_right _ hi))
     refine ⟨⟨_,_,blocksOf_append _ _ _,q1,q3⟩,fun id hi => ?_⟩
     rcases List.mem_append.1 hi with h5 | h5
     ·exact q2 id h5
     ·exact q4 id h5
    ·cases h
   ·cases h
 | i,[],v :: vs,cs,xs,hl,hv,h,hin,hK => by simp [outV] at h
 | i,t :: ts,[],cs,xs,hl,hv,h,hin,hK => by simp [outV] at h
end
end Go.Proofs.YtpffkpaiihcffaaGreatDoor.VM
