/- Normal forms at points. -/
import Derived.Test.YtpffkpaiihcffaaGreatDoorCallF
set_option linter.unusedVariables false
set_option linter.unusedSimpArgs false
set_option linter.unusedSectionVars false
namespace Go.Proofs.YtpffkpaiihcffaaGreatDoor.VM
open Go Go.RowKit
section
variable {P : Program} {E : Env} {L : List (Fr × Act)} {B0 : Nat} {G T : Nat → Prop} {w0 w : World} {A : Nat → Prop} {β : LocOf} {H : Hp} {F : Fr} {a : Act}
theorem keepF_get (keep : List Nat) (F : Fr) (t : Nat) : (keepF keep F)[t]? = (F[t]?).map fun v => match keep.contains t with | true => v | false => .un:=by
 unfold keepF
 rw [List.getElem?_map,List.getElem?_zipIdx]
 cases F[t]? with
 | none => rfl
 | some v => simp;rfl
theorem keepF_rel (keep : List Nat) (st : St L B0 G T w0 F H a w A β) : St L B0 G T w0 (keepF keep F) H a w A β:=by
 refine ⟨⟨by rw [st.fr.size];simp [keepF],fun t v hv => ?_,st.fr.defers,st.fr.sus,st.fr.gl⟩,st.hp,st.below⟩
 rw [keepF_get] at hv
 cases hf : F[t]? with
 | none => rw [hf] at hv;cases hv
 | some x =>
  rw [hf] at hv
  cases hv
  split
  ·exact st.fr.at_ t x hf
  ·exact .un _
theorem HRel.rebox {id : Nat} {cs cs' : List V} (h : HRel B0 G T w A β H) (hk : H[id]? = some (.box cs)) (hb : BRel w A β (H.set id (.box cs')) (β id) (.box cs')) : HExt β H β (H.set id (.box cs')) ∧ HRel B0 G T w A β (H.set id (.box cs')):=by
 have hl : id < H.length:=(List.getElem?_eq_some_iff.1 hk).1
 have he : HExt β H β (H.set id (.box cs')):=HExt.set hk (fun q hq => by unfold rowsOf at hq;rw [hk] at hq;cases hq) (by simp)
 refine ⟨he,⟨?_,?_,?_,h.lt,h.low,h.gt,h.base,h.top⟩⟩
 ·intro i x hi
  rw [get_set_hp] at hi
  by_cases e : id = i
  ·subst e
   rw [if_pos ⟨rfl,hl⟩] at hi;cases hi
   exact hb
  ·rw [if_neg (fun q => e q.1)] at hi
   exact (h.blk i x hi).mono (FExt.refl w A) he (Nat.le_refl _) (fun _ _ => rfl)
 ·intro i i' b o s cap o' s' cap' x x' hi hi' hax hax' hl1 hl2
  rw [get_set_hp] at hi hi'
  by_cases e : id = i
  ·by_cases e' : id = i'
   ·omega
   ·subst e
    rw [if_neg (fun q => e' q.1)] at hi'
    exact h.inj id i' b o s cap o' s' cap' _ x' hk hi' rfl hax' hl1 hl2
  ·rw [if_neg (fun q => e q.1)] at hi
   by_cases e' : id = i'
   ·subst e'
    exact h.inj i id b o s cap o' s' cap' x _ hi hk hax rfl hl1 hl2
   ·rw [if_neg (fun q => e' q.1)] at hi'
    exact h.inj i i' b o s cap o' s' cap' x x' hi hi' hax hax' hl1 hl2
 ·intro i b o s cap x hi hax hl1
  rw [get_set_hp] at hi
  by_cases e : id = i
  ·subst e;exact h.ours id b o s cap _ hk rfl hl1
  ·rw [if_neg (fun q => e q.1)] at hi
   exact h.ours i b o s cap x hi hax hl1
def AtP (w : World) (β : LocOf) (F : Fr) (a : Act) (H : Hp) (u : Value) : Place → Prop
 | .t t => t < F.length ∧ u = a.tmps.getD t undef
 | .c id off => ∃ b s cs,β id = .at b 0 s 1 ∧ H[id]? = some (.box cs) ∧ off < cs.length ∧ w.cell? ⟨b,off,none⟩ = some u ∧ u.oneCell' = true
theorem getP_rel {p : Place} {v : V} (st : St L B0 G T w0 F H a w A β) (h : getP F H p = some v) : ∃ u,VR w A β H v u ∧ (AtP w β F a H u p ∨ ∃ t,p = .t t ∧ F.length ≤ t):=by
 cases p with
 | t t =>
  simp only [getP] at h
  cases h
  by_cases ht : t < F.length
  ·exact ⟨_,getF_rel st.fr t,.inl ⟨ht,rfl⟩⟩
  ·exact ⟨_,getF_rel st.fr t,.inr ⟨t,rfl,by omega⟩⟩
 | c id off =>
  simp only [getP] at h
  split at h
  ·rename_i cs hk
   obtain ⟨b,s,h1,h2,h3,h4⟩:=st.hp.blk id _ hk
   obtain ⟨u,g1,g2,g3,g4⟩:=h4 off v h
   exact ⟨u,g4,.inl ⟨b,s,cs,h1,hk,(List.getElem?_eq_some_iff.1 h).1,g1,g2⟩⟩
  ·cases h
theorem setP_rel {p : Place} {v' : V} {u : Value} {F' : Fr} {H' : Hp} (st : St L B0 G T w0 F H a w A β) (hp : AtP w β F a H u p) (hv : VR w A β H v' u) (h1 : isOne v' = true) (h : setP F H v' p = (F',H')) : HExt β H β H' ∧ St L B0 G T w0 F' H' a w A β:=by
 cases p with
 | t t =>
  simp only [setP] at h
  cases h
  obtain ⟨_,rfl⟩:=hp
  exact ⟨HExt.refl β H,st.learn hv⟩
 | c id off =>
  obtain ⟨b,s,cs,q1,q2,q3,q4,q5⟩:=hp
  simp only [setP,q2] at h
  cases h
  obtain ⟨b2,s2,h1',h2,h3,h4⟩:=st.hp.blk id _ q2
  rw [q1] at h1';cases h1'
  have he : HExt β H β (H.set id (.box (cs.set off v'))):=HExt.set q2 (fun q hq => by unfold rowsOf at hq;rw [q2] at hq;cases hq) (by simp)
  obtain ⟨he2,hp2⟩:=st.hp.rebox (cs':=cs.set off v') q2 (by
   rw [q1]
   refine ⟨b,s,rfl,by simpa using h2,h3,fun k v hk => ?_⟩
   rw [List.getElem?_set] at hk
   by_cases e : off = k
   ·subst e
    simp only [if_true] at hk
    rw [if_pos q3] at hk
    cases hk
    exact ⟨u,q4,q5,h1,hv.mono (FExt.refl w A) he⟩
   ·rw [if_neg e] at hk
    obtain ⟨u',g1,g2,g3,g4⟩:=h4 k v hk
    exact ⟨u',g1,g2,g3,g4.mono (FExt.refl w A) he⟩)
  exact ⟨he2,st.fr.mono (FExt.refl w A) he2,hp2,st.below⟩
theorem frzP_rel : ∀ (ps : List Place) (F : Fr) (H : Hp) (A : Nat → Prop) (F' : Fr) (H' : Hp),frzP ps F H = some (F',H') → St L B0 G T w0 F H a w A β → ∃ A',St L B0 G T w0 F' H' a w A' β
 | [],F,H,A,F',H',h,st => by simp only [frzP] at h;cases h;exact ⟨A,st⟩
 | p :: ps,F,H,A,F',H',h,st => by
  simp only [frzP] at h
  split at h
  ·rename_i v hg
   split at h
   ·rename_i hone
    obtain ⟨u,hv,hat⟩:=getP_rel st hg
    obtain ⟨A1,fe1,he1,hp1,hin⟩:=marks_rel st.hp v
    have st1 : St L B0 G T w0 F (marks H v) a w A1 β:=⟨st.fr.mono fe1 he1,hp1,st.below⟩
    have hv1 : VR w A1 β (marks H v) (.f (frz H v)) u:=.f _ _ (frz_rel st.hp fe1 hv hin) (hv.one hone)
    have key : ∃ A2,St L B0 G T w0 (setP F (marks H v) (.f (frz H v)) p).1 (setP F (marks H v) (.f (frz H v)) p).2 a w A2 β:=by
     rcases hat with hat | ⟨t,rfl,ht⟩
     ·cases p with
      | t t => exact ⟨A1,(setP_rel (p:=.t t) st1 hat hv1 rfl rfl).2⟩
      | c id off =>
       by_cases hb : ∃ cs1,(marks H v)[id]? = some (.box cs1)
       ·obtain ⟨cs1,hb⟩:=hb
        obtain ⟨b,s,cs,q1,q2,q3,q4,q5⟩:=hat
        obtain ⟨b2,s2,r1,r2,_⟩:=st.hp.blk id _ q2
        obtain ⟨b3,s3,r3,r4,_⟩:=hp1.blk id _ hb
        rw [q1] at r1 r3
        cases r1;cases r3
        exact ⟨A1,(setP_rel (p:=.c id off) st1 ⟨b,s,cs1,q1,hb,by omega,q4,q5⟩ hv1 rfl rfl).2⟩
       ·have : setP F (marks H v) (.f (frz H v)) (.c id off) = (F,marks H v):=by
         simp only [setP]
         split
         ·rename_i cs1 hcs;exact absurd ⟨cs1,hcs⟩ hb
         ·rfl
        rw [this];exact ⟨A1,st1⟩
     ·refine ⟨A1,?_⟩
      simp only [setP]
      rw [List.set_eq_of_length_le ht];exact st1
    obtain ⟨A2,st2⟩:=key
    exact frzP_rel ps _ _ A2 F' H' h st2
   ·cases h
  ·cases h
theorem take_get {m i : Nat} (h : i < m) : (H.take m)[i]? = H[i]?:=by rw [List.getElem?_take,if_pos h]
theorem rowsOf_take {m i : Nat} (h : i < m) : rowsOf (H.take m) i = rowsOf H i:=by unfold rowsOf;rw [take_get h]
theorem VR.trunc {m : Nat} : ∀ (n : Nat) {v : V} {c : Value},VR w A β H v c → belowV n m v = true → VR w A β (H.take m) v c
 | 0,v,c,h,hb => by simp [belowV] at hb
 | n + 1,v,c,h,hb => by
  have lst : ∀ {cs : List V} {us : List Value},(∀ (k : Nat) x u,cs[k]? = some x → us[k]? = some u → VR w A β H x u) → cs.all (belowV n m) = true → ∀ (k : Nat) x u,cs[k]? = some x → us[k]? = some u → VR w A β (H.take m) x u :=
   fun hx hall k x u h1 h2 => VR.trunc n (hx k x u h1 h2) (List.all_eq_true.1 hall x (List.mem_of_getElem? h1))
  cases h with
  | un c => exact .un _
  | f x c h h1 => exact .f _ _ h h1
  | refNil id a h hr =>
   have hm : id < m:=by simpa [belowV] using hb
   exact .refNil id a h (by rw [rowsOf_take hm];exact hr)
  | refAt id b o s cap n' h rows hr hn =>
   have hm : id < m:=by simpa [belowV] using hb
   exact .refAt id b o s cap n' h rows (by rw [rowsOf_take hm];exact hr) hn
  | refDead id c h h1 =>
   have hm : id < m:=by simpa [belowV] using hb
   exact .refDead id c (by rw [take_get hm];exact h) h1
  | ptr id i off b o s cap h hl =>
   have hm : id < m:=by simpa [belowV] using hb
   exact .ptr id i off b o s cap h (by rw [List.length_take];omega)
  | ptrDead id i off c h h1 =>
   have hm : id < m:=by simpa [belowV] using hb
   exact .ptrDead id i off c (by rw [take_get hm];exact h) h1
  | mp id b h hl =>
   have hm : id < m:=by simpa [belowV] using hb
   exact .mp id b h (by rw [List.length_take];omega)
  | it id b h hl =>
   have hm : id < m:=by simpa [belowV] using hb
   exact .it id b h (by rw [List.length_take];omega)
  | agg cells vs hl hx => exact .agg cells vs hl (lst hx (by simpa [belowV] using hb))
  | tup cells vs hl hx => exact .tup cells vs hl (lst hx (by simpa [belowV] using hb))
  | func g cells vs hl hx => exact .func g cells vs hl (lst hx (by simpa [belowV] using hb))
theorem trunc_rel {m : Nat} (st : St L B0 G T w0 F H a w A β) (hF : F.all (belowV 4 m) = true) (hB : (H.take m).all (belowB m) = true) (hS : ∀ q ∈ L,q.1.all (belowV 4 m) = true) : St L B0 G T w0 F (H.take m) a w A β:=by
 have hget : ∀ {i : Nat} {k : Blk},(H.take m)[i]? = some k → H[i]? = some k:=by
  intro i k h
  rw [List.getElem?_take] at h
  split at h
  ·exact h
  ·cases h
 refine ⟨⟨st.fr.size,fun t v hv => (st.fr.at_ t v hv).trunc 4 (List.all_eq_true.1 hF v (List.mem_of_getElem? hv)),st.fr.defers,fun p hp t v hv => (st.fr.sus p hp t v hv).trunc 4 (List.all_eq_true.1 (hS p hp) v (List.mem_of_getElem? hv)),st.fr.gl⟩,⟨?_,?_,?_,st.hp.lt,st.hp.low,st.hp.gt,st.hp.base,st.hp.top⟩,st.below⟩
 ·intro id k hk
  have hb:=st.hp.blk id k (hget hk)
  have hbel:=List.all_eq_true.1 hB k (List.mem_of_getElem? hk)
  cases k with
  | box cs =>
   obtain ⟨b,s,h1,h2,h3,h4⟩:=hb
   refine ⟨b,s,h1,h2,h3,fun j v hv => ?_⟩
   obtain ⟨u,q1,q2,q3,q4⟩:=h4 j v hv
   exact ⟨u,q1,q2,q3,q4.trunc 4 (List.all_eq_true.1 (by simpa [belowB] using hbel) v (List.mem_of_getElem? hv))⟩
  | _ => exact hb
 ·intro id id' b o s cap o' s' cap' k k' h1 h2 h3 h4 h5 h6
  exact st.hp.inj id id' b o s cap o' s' cap' k k' (hget h1) (hget h2) h3 h4 h5 h6
 ·intro id b o s cap k h1 h2 h3
  exact st.hp.ours id b o s cap k (hget h1) h2 h3
theorem HRel.kill {id s0 : Nat} {r : List (List FV)} (h : HRel B0 G T w A β H) (hk : H[id]? = some (Blk.own s0 r)) : HExt β H β (H.set id .dead) ∧ HRel B0 G T w A β (H.set id .dead):=by
 have hl : id < H.length:=(List.getElem?_eq_some_iff.1 hk).1
 have he : HExt β H β (H.set id .dead):=by
  refine ⟨fun _ _ _ => rfl,by simp,fun i q hq => ?_,fun i hd => ?_⟩
  ·by_cases e : id = i
   ·subst e;exact .inr (by rw [get_set_hp,if_pos ⟨rfl,hl⟩])
   ·refine .inl ⟨q,?_,rfl⟩
    unfold rowsOf at hq ⊢
    rw [get_set_hp,if_neg (fun q => e q.1)];exact hq
  ·rw [get_set_hp]
   by_cases e : id = i
   ·subst e;rw [if_pos ⟨rfl,hl⟩]
   ·rw [if_neg (fun q => e q.1)];exact hd
 refine ⟨he,⟨?_,?_,?_,h.lt,h.low,h.gt,h.base,h.top⟩⟩
 ·intro i x hi
  rw [get_set_hp] at hi
  by_cases e : id = i
  ·subst e;rw [if_pos ⟨rfl,hl⟩] at hi;cases hi;trivial
  ·rw [if_neg (fun q => e q.1)] at hi
   exact (h.blk i x hi).mono (FExt.refl w A) he (Nat.le_refl _) (fun _ _ => rfl)
 ·intro i i' b o s cap o' s' cap' x x' hi hi' hax hax' hl1 hl2
  rw [get_set_hp] at hi hi'
  by_cases e : id = i
  ·subst e;rw [if_pos ⟨rfl,hl⟩] at hi;cases hi;cases hax
  ·by_cases e' : id = i'
   ·subst e';rw [if_pos ⟨rfl,hl⟩] at hi';cases hi';cases hax'
   ·rw [if_neg (fun q => e q.1)] at hi;rw [if_neg (fun q => e' q.1)] at hi'
    exact h.inj i i' b o s cap o' s' cap' x x' hi hi' hax hax' hl1 hl2
 ·intro i b o s cap x hi hax hl1
  rw [get_set_hp] at hi
  by_cases e : id = i
  ·subst e;rw [if_pos ⟨rfl,hl⟩] at hi;cases hi;cases hax
  ·rw [if_neg (fun q => e q.1)] at hi
   exact h.ours i b o s cap x hi hax hl1
def AtV (w : World) (β : LocOf) (a : Act) (u : Value) : Place → Prop
 | .t t => t < a.tmps.size ∧ u = a.tmps.getD t undef
 | .c id off => ∃ b s,β id = .at b 0 s 1 ∧ off < s ∧ w.cell? ⟨b,off,none⟩ = some u ∧ u.oneCell' = true
theorem atV_of {u : Value} {p : Place} (st : St L B0 G T w0 F H a w A β) (h : AtP w β F a H u p) : AtV w β a u p:=by
 cases p with
 | t t => exact ⟨by rw [st.fr.size];exact h.1,h.2⟩
 | c id off =>
  obtain ⟨b,s,cs,q1,q2,q3,q4,q5⟩:=h
  obtain ⟨b2,s2,r1,r2,_⟩:=st.hp.blk id _ q2
  rw [q1] at r1;cases r1
  exact ⟨b,s,q1,by omega,q4,q5⟩
theorem setV_rel {p : Place} {v' : V} {u : Value} {F' : Fr} {H' : Hp} (st : St L B0 G T w0 F H a w A β) (hp : AtV w β a u p) (hv : VR w A β H v' u) (h1 : isOne v' = true) (h : setP F H v' p = (F',H')) : HExt β H β H' ∧ St L B0 G T w0 F' H' a w A β ∧
  (∀ (i : Nat) k,H'[i]? = some k → k.alive = true → ∃ k0,H[i]? = some k0 ∧ k0.alive = true):=by
 cases p with
 | t t =>
  obtain ⟨e1,e2⟩:=setP_rel (p:=.t t) st ⟨by rw [← st.fr.size];exact hp.1,hp.2⟩ hv h1 h
  simp only [setP] at h;cases h
  exact ⟨e1,e2,fun i k hk ha => ⟨k,hk,ha⟩⟩
 | c id off =>
  by_cases hb : ∃ cs,H[id]? = some (.box cs)
  ·obtain ⟨cs,hb⟩:=hb
   obtain ⟨b,s,q1,q3,q4,q5⟩:=hp
   obtain ⟨b2,s2,r1,r2,_⟩:=st.hp.blk id _ hb
   rw [q1] at r1;cases r1
   obtain ⟨e1,e2⟩:=setP_rel (p:=.c id off) st ⟨b,s,cs,q1,hb,by omega,q4,q5⟩ hv h1 h
   refine ⟨e1,e2,fun i k hk ha => ?_⟩
   simp only [setP,hb] at h;cases h
   rw [get_set_hp] at hk
   by_cases e : id = i
   ·subst e;exact ⟨_,hb,rfl⟩
   ·rw [if_neg (fun q => e q.1)] at hk;exact ⟨k,hk,ha⟩
  ·have : setP F H v' (.c id off) = (F,H):=by
    simp only [setP]
    split
    ·rename_i cs hcs;exact absurd ⟨cs,hcs⟩ hb
    ·rfl
   rw [this] at h;cases h
   exact ⟨HExt.refl β H,st,fun i k hk ha => ⟨k,hk,ha⟩⟩
def Taken (w : World) (A : Nat → Prop) (β : LocOf) (a : Act) : List (Place × Nat) → List (List (List FV)) → List Nat → Prop
 | [],[],O => O = []
 | (p,s) :: ps,r :: rs,O => ∃ u o1 o2,O = o1 ++ o2 ∧ AtV w β a u p ∧ OwnedV w A s (.arr r) u o1 ∧ Taken w A β a ps rs o2
 | _,_,_ => False
theorem takeP_rel : ∀ (ps : List (Place × Nat)) (F : Fr) (H : Hp) (F' : Fr) (H' : Hp) (rs : List (List (List FV))),takeP ps F H = some (F',H',rs) → St L B0 G T w0 F H a w A β →
  ∃ O,Taken w A β a ps rs O ∧ O.Nodup ∧ Fresh B0 G A O ∧ St L B0 G T w0 F' H' a w A β ∧ (∀ b ∈ O,∃ id k,H[id]? = some k ∧ k.alive = true ∧ (β id).block = some b) ∧ Unused β H' O ∧
   (∀ (i : Nat) k,H'[i]? = some k → k.alive = true → ∃ k0,H[i]? = some k0 ∧ k0.alive = true)
 | [],F,H,F',H',rs,h,st => by
  simp only [takeP] at h
  cases h
  exact ⟨[],rfl,List.nodup_nil,fun b hb => (by cases hb),st,fun b hb => (by cases hb),fun b hb => (by cases hb),fun i k hk ha => ⟨k,hk,ha⟩⟩
 | (p,s) :: ps,F,H,F',H',rs,h,st => by
  simp only [takeP] at h
  split at h
  ·rename_i id hg
   split at h
   ·rename_i s' r hid
    obtain ⟨hs,h9⟩:=gB_some h
    have hs':=Nat.eq_of_beq_eq_true hs
    subst hs'
    obtain ⟨u,hv,hat⟩:=getP_rel st hg
    have hat' : AtV w β a u p:=by
     rcases hat with hat | ⟨t,rfl,ht⟩
     ·exact atV_of st hat
     ·simp only [getP,getF,List.getElem?_eq_none ht] at hg;cases hg
    have hone:=hv.one rfl
    obtain ⟨he1,hp1⟩:=st.hp.kill hid
    have st1 : St L B0 G T w0 F (H.set id .dead) a w A β:=⟨st.fr.mono (FExt.refl w A) he1,hp1,st.below⟩
    have hlid:=(List.getElem?_eq_some_iff.1 hid).1
    have hdead : ∀ (i : Nat) k,(H.set id .dead)[i]? = some k → k.alive = true → H[i]? = some k ∧ i ≠ id:=by
     intro i k hk ha
     rw [get_set_hp] at hk
     by_cases e : id = i
     ·subst e;rw [if_pos ⟨rfl,hlid⟩] at hk;cases hk;cases ha
     ·rw [if_neg (fun q => e q.1)] at hk;exact ⟨hk,Ne.symm e⟩
    generalize hset : setP F (H.set id .dead) (.f .undef) p = q at h9
    obtain ⟨F2,H2⟩:=q
    simp only at h9
    obtain ⟨he2,st2,hal⟩:=setV_rel st1 hat' (.f _ _ (.undef u) hone) rfl hset
    split at h9
    ·rename_i F3 H3 rs3 ht
     cases h9
     obtain ⟨o2,t1,t2,t3,t4,t5,t6,t7⟩:=takeP_rel ps F2 H2 _ _ _ ht st2
     obtain ⟨o1,how,hsub⟩ : ∃ o1,OwnedV w A s' (.arr r) u o1 ∧ ∀ b ∈ o1,o1 = [b] ∧ (β id).block = some b:=by
      cases hv with
      | refDead _ _ hd => rw [hid] at hd;cases hd
      | refNil _ ad hb hr =>
       have : r = []:=by unfold rowsOf at hr;rw [hid] at hr;cases hr;rfl
       exact ⟨[],⟨r,rfl,.inl ⟨ad,rfl,this,rfl⟩⟩,by simp⟩
      | refAt _ b o sz cap n hb rows hr hn =>
       have : rows = r:=by unfold rowsOf at hr;rw [hid] at hr;cases hr;rfl
       subst this;subst hn
       rcases st.hp.blk id _ hid with ⟨h0,_⟩ | ⟨b2,o2,cap2,h3,h4,h5,h6,h7,cc,ce,h8,h9⟩
       ·rw [hb] at h0;cases h0
       rw [hb] at h3;cases h3
       exact ⟨[b],⟨rows,rfl,.inr ⟨b,o,cap,rfl,rfl,h4,h5,h6,h7,cc,ce,h8,h9⟩⟩,fun b' hb' => by simp at hb';subst hb';exact ⟨rfl,by rw [hb];rfl⟩⟩
     have apart : ∀ b ∈ o1,∀ (i : Nat) k,H[i]? = some k → k.alive = true → i ≠ id → (β i).block ≠ some b:=by
      intro b hb i k hk ha hne hbl
      obtain ⟨_,hb2⟩:=hsub b hb
      cases hl : β id with
      | no => rw [hl] at hb2;cases hb2
      | nil => rw [hl] at hb2;cases hb2
      | «at» b1 o1' s1 c1 =>
       cases hl2 : β i with
       | no => rw [hl2] at hbl;cases hbl
       | nil => rw [hl2] at hbl;cases hbl
       | «at» b3 o3 s3 c3 =>
        rw [hl] at hb2;rw [hl2] at hbl
        cases hb2;cases hbl
        exact hne (st.hp.inj i id _ _ _ _ _ _ _ _ _ hk hid ha rfl hl2 hl)
     have up : ∀ (i : Nat) k,H2[i]? = some k → k.alive = true → ∃ k0,H[i]? = some k0 ∧ k0.alive = true ∧ i ≠ id:=by
      intro i k hk ha
      obtain ⟨k1,g1,g2⟩:=hal i k hk ha
      obtain ⟨g3,g4⟩:=hdead i k1 g1 g2
      exact ⟨k1,g3,g2,g4⟩
     refine ⟨o1 ++ o2,⟨u,o1,o2,rfl,hat',how,t1⟩,?_,?_,t4,?_,?_,?_⟩
     ·refine List.nodup_append.2 ⟨?_,t2,?_⟩
      ·match o1,hsub with
       | [],_ => exact List.nodup_nil
       | [x],_ => simp
       | x :: y :: l,hsub => have:=(hsub x (by simp)).1;simp at this
      ·intro b hb b' hb' e
       subst e
       obtain ⟨i,k,g1,g2,g3⟩:=t5 b hb'
       obtain ⟨k0,g4,g5,g6⟩:=up i k g1 g2
       exact apart b hb i k0 g4 g5 g6 g3
     ·intro b hb
      rcases List.mem_append.1 hb with hb | hb
      ·obtain ⟨_,hb2⟩:=hsub b hb
       cases hl : β id with
       | no => rw [hl] at hb2;cases hb2
       | nil => rw [hl] at hb2;cases hb2
       | «at» b1 o1' s1 c1 => rw [hl] at hb2;cases hb2;exact st.hp.ours id _ _ _ _ _ hid rfl hl
      ·exact t3 b hb
     ·intro b hb
      rcases List.mem_append.1 hb with hb | hb
      ·exact ⟨id,_,hid,rfl,(hsub b hb).2⟩
      ·obtain ⟨i,k,g1,g2,g3⟩:=t5 b hb
       obtain ⟨k0,g4,g5,_⟩:=up i k g1 g2
       exact ⟨i,k0,g4,g5,g3⟩
     ·intro b hb i k hk ha
      rcases List.mem_append.1 hb with hb | hb
      ·obtain ⟨k1,g1,g2⟩:=t7 i k hk ha
       obtain ⟨k0,g4,g5,g6⟩:=up i k1 g1 g2
       exact apart b hb i k0 g4 g5 g6
      ·exact t6 b hb i k hk ha
     ·intro i k hk ha
      obtain ⟨k1,g1,g2⟩:=t7 i k hk ha
      obtain ⟨k0,g4,g5,_⟩:=up i k1 g1 g2
      exact ⟨k0,g4,g5⟩
    ·cases h9
   ·cases h
  ·rename_i hg
   obtain ⟨u,hv,hat⟩:=getP_rel st hg
   have hat' : AtV w β a u p:=by
    rcases hat with hat | ⟨t,rfl,ht⟩
    ·exact atV_of st hat
    ·simp only [getP,getF,List.getElem?_eq_none ht] at hg;cases hg
   obtain ⟨hfr,hone⟩:=hv.f'
   generalize hset : setP F H (.f .undef) p = q at h
   obtain ⟨F2,H2⟩:=q
   simp only at h
   obtain ⟨he2,st2,hal⟩:=setV_rel st hat' (.f _ _ (.undef u) hone) rfl hset
   split at h
   ·rename_i F3 H3 rs3 ht
    cases h
    obtain ⟨o2,t1,t2,t3,t4,t5,t6,t7⟩:=takeP_rel ps F2 H2 _ _ _ ht st2
    cases hfr with
    | nilS ad =>
     refine ⟨o2,⟨_,[],o2,rfl,hat',⟨[],rfl,.inl ⟨ad,rfl,rfl,rfl⟩⟩,t1⟩,t2,t3,t4,fun b hb => ?_,t6,fun i k hk ha => ?_⟩
     ·obtain ⟨i,k,g1,g2,g3⟩:=t5 b hb
      obtain ⟨k0,g4,g5⟩:=hal i k g1 g2
      exact ⟨i,k0,g4,g5,g3⟩
     ·obtain ⟨k1,g1,g2⟩:=t7 i k hk ha
      exact hal i k1 g1 g2
   ·cases h
  ·cases h
def AtW (w : World) (β : LocOf) (H : Hp) (a : Act) (u : Value) : Place → Prop
 | .t t => t < a.tmps.size ∧ u = a.tmps.getD t undef
 | .c id off => ∀ cs,H[id]? = some (.box cs) → ∃ b s,β id = .at b 0 s 1 ∧ off < s ∧ w.cell? ⟨b,off,none⟩ = some u ∧ u.oneCell' = true
theorem setW_rel {p : Place} {v' : V} {u : Value} {F' : Fr} {H' : Hp} (st : St L B0 G T w0 F H a w A β) (hp : AtW w β H a u p) (hv : VR w A β H v' u) (h1 : isOne v' = true) (h : setP F H v' p = (F',H')) : HExt β H β H' ∧ St L B0 G T w0 F' H' a w A β ∧
  (∀ (i : Nat) k,H'[i]? = some k → k.alive = true → ∃ k0,H[i]? = some k0 ∧ k0.alive = true) ∧ (∀ (i : Nat) cs,H'[i]? = some (.box cs) → ∃ cs0,H[i]? = some (.box cs0)):=by
 cases p with
 | t t =>
  obtain ⟨e1,e2,e3⟩:=setV_rel (p:=.t t) st hp hv h1 h
  simp only [setP] at h;cases h
  exact ⟨e1,e2,e3,fun i cs hk => ⟨cs,hk⟩⟩
 | c id off =>
  by_cases hb : ∃ cs,H[id]? = some (.box cs)
  ·obtain ⟨cs,hb⟩:=hb
   obtain ⟨e1,e2,e3⟩:=setV_rel (p:=.c id off) st (hp cs hb) hv h1 h
   refine ⟨e1,e2,e3,fun i cs' hk => ?_⟩
   simp only [setP,hb] at h;cases h
   rw [get_set_hp] at hk
   by_cases e : id = i
   ·subst e;exact ⟨cs,hb⟩
   ·rw [if_neg (fun q => e q.1)] at hk;exact ⟨cs',hk⟩
  ·have : setP F H v' (.c id off) = (F,H):=by
    simp only [setP]
    split
    ·rename_i cs hcs;exact absurd ⟨cs,hcs⟩ hb
    ·rfl
   rw [this] at h;cases h
   exact ⟨HExt.refl β H,st,fun i k hk ha => ⟨k,hk,ha⟩,fun i cs hk => ⟨cs,hk⟩⟩
def TakenW (w : World) (A : Nat → Prop) (β : LocOf) (H : Hp) (a : Act) : List (Place × Nat) → List (List (List FV)) → List Nat → Prop
 | [],[],O => O = []
 | (p,s) :: ps,r :: rs,O => ∃ u o1 o2,O = o1 ++ o2 ∧ AtW w β H a u p ∧ OwnedV w A s (.arr r) u o1 ∧ TakenW w A β H a ps rs o2
 | _,_,_ => False
theorem takenW_of {H : Hp} : ∀ {ps : List (Place × Nat)} {rs : List (List (List FV))} {O : List Nat},Taken w A β a ps rs O → TakenW w A β H a ps rs O
 | [],[],O,h => h
 | (p,s) :: ps,r :: rs,O,h => by
  obtain ⟨u,o1,o2,h1,h2,h3,h4⟩:=h
  refine ⟨u,o1,o2,h1,?_,h3,takenW_of h4⟩
  cases p with
  | t t => exact h2
  | c id off => exact fun cs _ => h2
 | [],r :: rs,O,h => h.elim
 | (p,s) :: ps,[],O,h => h.elim
theorem takenW_mono {β' : LocOf} {H' : Hp} (he : ∀ (i : Nat) cs,H'[i]? = some (.box cs) → β' i = β i ∧ ∃ cs0,H[i]? = some (.box cs0)) : ∀ {ps : List (Place × Nat)} {rs : List (List (List FV))} {O : List Nat},TakenW w A β H a ps rs O → TakenW w A β' H' a ps rs O
 | [],[],O,h => h
 | (p,s) :: ps,r :: rs,O,h => by
  obtain ⟨u,o1,o2,h1,h2,h3,h4⟩:=h
  refine ⟨u,o1,o2,h1,?_,h3,takenW_mono he h4⟩
  cases p with
  | t t => exact h2
  | c id off =>
   intro cs hcs
   obtain ⟨e1,cs0,e2⟩:=he id cs hcs
   rw [e1];exact h2 cs0 e2
 | [],r :: rs,O,h => h.elim
 | (p,s) :: ps,[],O,h => h.elim
theorem putP_rel : ∀ (m : Nat) (ps : List (Place × Nat)) (rs : List (List (List FV))) (F : Fr) (H : Hp) (F' : Fr) (H' : Hp) (β : LocOf) (O : List Nat),putP m ps rs F H = some (F',H') → TakenW w A β H a ps rs O → O.Nodup → Fresh B0 G A O → Unused β H O → St L B0 G T w0 F H a w A β → ∃ β',St L B0 G T w0 F' H' a w A β'
 | m,[],rs,F,H,F',H',β,O,h,ht,hn,hf,hu,st => by
  simp only [putP] at h;cases h;exact ⟨β,st⟩
 | m,(p,s) :: ps,[],F,H,F',H',β,O,h,ht,hn,hf,hu,st => ht.elim
 | m,(p,s) :: ps,r :: rs,F,H,F',H',β,O,h,ht,hn,hf,hu,st => by
  obtain ⟨u,o1,o2,rfl,hat,how,ht⟩:=ht
  obtain ⟨n1,n2,n3⟩:=nodup_app hn
  simp only [putP] at h
  obtain ⟨he0,hp0⟩:=frees_rel st.hp 1
  have st0 : St L B0 G T w0 F (H ++ [.free]) a w A (locCut β H.length):=⟨st.fr.mono (FExt.refl w A) he0,hp0,st.below⟩
  have hlt : ∀ {i : Nat},i < H.length → locCut β H.length i = β i:=fun hi => by simp [locCut,hi]
  have hun : ∀ {obs : List Nat},Unused β H obs → Unused (locCut β H.length) (H ++ [.free]) obs:=by
   intro obs hq b hb i k hk ha
   rw [List.getElem?_append] at hk
   split at hk
   ·rename_i hi;rw [hlt hi];exact hq b hb i k hk ha
   ·have : k = .free:=by
     have h2:=(List.getElem?_eq_some_iff.1 hk).2
     simp at h2;exact h2.symm
    subst this;cases ha
  obtain ⟨β1,e1,st1,v1,k1⟩:=take_own (nid:=H.length) (s:=s) (r:=r) st0 (by simp) how (hun fun b hb => hu b (List.mem_append_left _ hb)) (fun b hb => hf b (List.mem_append_left _ hb))
  have hset : (H ++ [Blk.free]).set H.length (.own s r) = H ++ [.own s r]:=by simp
  rw [hset] at e1 st1 v1 k1
  have hloc : ∀ {i : Nat},i < H.length → β i ≠ .no → β1 i = β i:=fun hi hne => by
   rw [e1.loc _ (by simp;omega) (by rw [hlt hi];exact hne),hlt hi]
  have hbox : ∀ (i : Nat) cs,(H ++ [Blk.own s r])[i]? = some (.box cs) → β1 i = β i ∧ H[i]? = some (.box cs):=by
   intro i cs hk
   rw [List.getElem?_append] at hk
   split at hk
   ·rename_i hi
    obtain ⟨b,s2,q1,_⟩:=st.hp.blk i _ hk
    exact ⟨hloc hi (by rw [q1];simp),hk⟩
   ·have h2:=(List.getElem?_eq_some_iff.1 hk).2
    simp at h2
  have hat1 : AtW w β1 (H ++ [.own s r]) a u p:=by
   cases p with
   | t t => exact hat
   | c id off =>
    intro cs hcs
    obtain ⟨q1,q2⟩:=hbox id cs hcs
    rw [q1];exact hat cs q2
  generalize hs : setP F (H ++ [.own s r]) (.ref H.length) p = q at h
  obtain ⟨F2,H2⟩:=q
  simp only at h
  obtain ⟨e2,st2,al2,bx2⟩:=setW_rel st1 hat1 v1 rfl hs
  refine putP_rel (m + 1) ps rs F2 H2 F' H' β1 o2 h (takenW_mono (fun i cs hk => ?_) ht) n2 (fun b hb => hf b (List.mem_append_right _ hb)) ?_ st2
  ·obtain ⟨cs0,g1⟩:=bx2 i cs hk
   obtain ⟨g2,g3⟩:=hbox i cs0 g1
   exact ⟨g2,cs0,g3⟩
  ·have hq:=k1 o2 n3 (hun fun b hb => hu b (List.mem_append_right _ hb))
   intro b hb i k hk ha
   obtain ⟨k0,g1,g2⟩:=al2 i k hk ha
   exact hq b hb i k0 g1 g2
theorem normSpec : NormSpec:=by
 intro L B0 G T w0 an F F' H H' a w A β hS h st
 unfold normal at h
 split at h
 ·rename_i F1 H1 hz
  split at h
  ·rename_i F2 H2 rs ht
   split at h
   ·rename_i hc
    simp only [Bool.and_eq_true] at hc
    obtain ⟨he,hp⟩:=settle_rel st.hp
    have st1 : St L B0 G T w0 (keepF an.keep F) (settle H) a w A β:=keepF_rel an.keep ⟨st.fr.mono (FExt.refl w A) he,hp,st.below⟩
    obtain ⟨A1,st2⟩:=frzP_rel _ _ _ _ _ _ hz st1
    obtain ⟨O,t1,t2,t3,t4,t5,t6,t7⟩:=takeP_rel _ _ _ _ _ _ ht st2
    have st3:=trunc_rel t4 hc.1.1 hc.1.2 hS
    obtain ⟨β',st4⟩:=putP_rel an.m an.own rs F2 _ F' H' β O h (takenW_of t1) t2 t3 (fun b hb i k hk ha => t6 b hb i k (by
     rw [List.getElem?_take] at hk
     split at hk
     ·exact hk
     ·cases hk) ha) st3
    exact ⟨A1,β',st4⟩
   ·cases h
  ·cases h
 ·cases h
end
end Go.Proofs.YtpffkpaiihcffaaGreatDoor.VM
