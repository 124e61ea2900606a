/- Results of calls, continued: how the caller takes them in. -/
import Derived.Test.YtpffkpaiihcffaaGreatDoorRes
set_option linter.unusedVariables false
set_option linter.unusedSimpArgs false
set_option linter.unusedSectionVars false
namespace Go.Proofs.YtpffkpaiihcffaaGreatDoor.VM
open Go Go.RowKit
section
variable {P : Program} {E : Env} {L : List (Fr × Act)} {B0 : Nat} {G T : Nat → Prop} {w0 w w' : World} {A A' : Nat → Prop} {β : LocOf} {H : Hp} {F : Fr} {a : Act} {res : FV}
def Unused (β : LocOf) (H : Hp) (obs : List Nat) : Prop:=∀ b ∈ obs,∀ id k,H[id]? = some k → k.alive = true → (β id).block ≠ some b
def Fresh (B0 : Nat) (G A : Nat → Prop) (obs : List Nat) : Prop:=∀ b ∈ obs,(B0 ≤ b ∨ G b) ∧ ¬ A b
theorem take_own {nid s : Nat} {r : List (List FV)} {c : Value} {obs : List Nat} (st : St L B0 G T w0 F H a w A β) (hf : H[nid]? = some .free) (ho : OwnedV w A s (.arr r) c obs) (hu : Unused β H obs) (hfr : Fresh B0 G A obs) :
  ∃ β',HExt β H β' (H.set nid (.own s r)) ∧ St L B0 G T w0 F (H.set nid (.own s r)) a w A β' ∧ VR w A β' (H.set nid (.own s r)) (.ref nid) c ∧ ∀ obs2,(∀ b ∈ obs2,b ∉ obs) → Unused β H obs2 → Unused β' (H.set nid (.own s r)) obs2:=by
 have hn : β nid = .no:=st.hp.blk nid _ hf
 have hlen : nid < H.length:=(List.getElem?_eq_some_iff.1 hf).1
 obtain ⟨rows,hr,h⟩:=ho
 cases hr
 have keep : ∀ (l : Loc),(∀ b,l.block = some b → b ∈ obs) → ∀ obs2,(∀ b ∈ obs2,b ∉ obs) → Unused β H obs2 → Unused (locSet β nid l) (H.set nid (.own s r)) obs2:=by
  intro l hl obs2 hd hu2 b hb id k hk ha
  rw [get_set_hp] at hk
  by_cases e : nid = id
  ·subst e
   rw [locSet_new]
   intro hq
   exact hd b hb (hl b hq)
  ·rw [if_neg (fun q => e q.1)] at hk
   rw [locSet_old _ _ (Ne.symm e)]
   exact hu2 b hb id k hk ha
 rcases h with ⟨ad,rfl,rfl,rfl⟩ | ⟨b,o,cap,rfl,rfl,h3,h4,h5,h6,cc,ce,h7,h8⟩
 ·obtain ⟨he,hp⟩:=st.hp.fill (k:=.own s []) (l:=.nil) hf (.inl ⟨rfl,rfl⟩) (by intro b o s cap hb;cases hb)
  refine ⟨_,he,⟨st.fr.mono (FExt.refl w A) he,hp,st.below⟩,.refNil nid ad (locSet_new _ _ _) ?_,keep _ (by intro b hb;cases hb)⟩
  unfold rowsOf
  rw [get_set_hp,if_pos ⟨rfl,hlen⟩]
 ·obtain ⟨he,hp⟩:=st.hp.fill (k:=.own s r) (l:=.at b o s cap) hf (.inr ⟨b,o,cap,rfl,h3,h4,h5,h6,cc,ce,h7,h8⟩) (by
   intro b' o' s' cap' hb _
   cases hb
   refine ⟨(hfr b (by simp)).1,(hfr b (by simp)).2,?_⟩
   intro id b2 o2 s2 cap2 k2 hk2 ha2 hl2 e2
   subst e2
   exact hu b2 (by simp) id k2 hk2 ha2 (by rw [hl2];rfl))
  refine ⟨_,he,⟨st.fr.mono (FExt.refl w A) he,hp,st.below⟩,.refAt nid b o s cap _ (locSet_new _ _ _) r ?_ rfl,keep _ (by intro b' hb;cases hb;simp)⟩
  unfold rowsOf
  rw [get_set_hp,if_pos ⟨rfl,hlen⟩]
theorem nodup_app {l1 l2 : List Nat} (h : (l1 ++ l2).Nodup) : l1.Nodup ∧ l2.Nodup ∧ ∀ b ∈ l2,b ∉ l1:=by
 obtain ⟨h1,h2,h3⟩:=List.nodup_append.1 h
 exact ⟨h1,h2,fun b hb hb1 => h3 b hb1 b hb rfl⟩
theorem backCells_rel {js : List (Nat × Nat)} {xs : List FV} {k : List V → Nat → Hp → R} : ∀ (n j nid : Nat) (rest : List FV) (us : List Value) (H : Hp) (β : LocOf) (acc : List V) (obs : List Nat),rest.length = n → (∀ m,rest[m]? = xs[j + m]?) → OwnCells w A js j rest us obs →
  St L B0 G T w0 F H a w A β → Unused β H obs → Fresh B0 G A obs → obs.Nodup → backCells js (.agg xs) j n nid H acc k = some res →
  ∃ cs nid' H' β',k (acc.reverse ++ cs) nid' H' = some res ∧ St L B0 G T w0 F H' a w A β' ∧ HExt β H β' H' ∧ cs.length = us.length ∧ (∀ (m : Nat) v u,cs[m]? = some v → us[m]? = some u → VR w A β' H' v u) ∧ ∀ obs2,(∀ b ∈ obs2,b ∉ obs) → Unused β H obs2 → Unused β' H' obs2
 | 0,j,nid,rest,us,H,β,acc,obs,hl,hx,ho,st,hu,hfr,hnd,h => by
  have : rest = []:=List.eq_nil_of_length_eq_zero hl
  subst this
  cases us with
  | cons u us => exact ho.elim
  | nil =>
   simp only [backCells] at h
   exact ⟨[],nid,H,β,by simpa using h,st,HExt.refl β H,rfl,by simp,fun _ _ h => h⟩
 | n + 1,j,nid,rest,us,H,β,acc,obs,hl,hx,ho,st,hu,hfr,hnd,h => by
  cases rest with
  | nil => simp at hl
  | cons x rest =>
   cases us with
   | nil => exact ho.elim
   | cons u us =>
    obtain ⟨o1,o2,rfl,h1,h2⟩:=ho
    obtain ⟨n1,n2,n3⟩:=nodup_app hnd
    have hxj : fCell (.agg xs) j = x:=by
     have:=hx 0
     simp only [List.getElem?_cons_zero,Nat.add_zero] at this
     simp [fCell,← this]
    have hx' : ∀ m,rest[m]? = xs[(j + 1) + m]?:=fun m => by
     have:=hx (m + 1)
     rw [List.getElem?_cons_succ] at this
     rw [this];congr 1;omega
    have hu1 : Unused β H o1:=fun b hb => hu b (List.mem_append_left _ hb)
    have hu2 : Unused β H o2:=fun b hb => hu b (List.mem_append_right _ hb)
    have hf1 : Fresh B0 G A o1:=fun b hb => hfr b (List.mem_append_left _ hb)
    have hf2 : Fresh B0 G A o2:=fun b hb => hfr b (List.mem_append_right _ hb)
    simp only [backCells] at h
    cases hj : ownAt js j with
    | some s =>
     rw [hj] at h h1
     simp only at h h1
     rw [hxj] at h
     obtain ⟨r,hr,h⟩:=bindO_some h
     obtain ⟨hfree,h9⟩:=newB_some h
     have hxr : x = .arr r:=by unfold arrRows at hr;split at hr <;> cases hr;rfl
     subst hxr
     obtain ⟨β1,e1,st1,v1,k1⟩:=take_own st hfree h1 hu1 hf1
     obtain ⟨cs,nid',H',β',g1,g2,g3,g4,g5,g6⟩:=backCells_rel n (j + 1) (nid + 1) rest us _ β1 _ o2 (by simpa using hl) hx' h2 st1 (k1 o2 n3 hu2) hf2 n2 h9
     refine ⟨.ref nid :: cs,nid',H',β',by simpa using g1,g2,e1.trans g3,by simp [g4],fun m v u' hv hu' => ?_,fun obs2 hd hq => g6 obs2 (fun b hb hb2 => hd b hb (List.mem_append_right _ hb2)) (k1 obs2 (fun b hb hb1 => hd b hb (List.mem_append_left _ hb1)) hq)⟩
     cases m with
     | zero => cases hv;cases hu';exact v1.mono (FExt.refl w A) g3
     | succ m => exact g5 m v u' hv hu'
    | none =>
     rw [hj] at h h1
     simp only at h h1
     rw [hxj] at h
     obtain ⟨q1,q2,rfl⟩:=h1
     obtain ⟨cs,nid',H',β',g1,g2,g3,g4,g5,g6⟩:=backCells_rel n (j + 1) nid rest us H β _ o2 (by simpa using hl) hx' h2 st hu2 hf2 n2 h
     refine ⟨.f x :: cs,nid',H',β',by simpa using g1,g2,g3,by simp [g4],fun m v u' hv hu' => ?_,fun obs2 hd hq => g6 obs2 (fun b hb hb2 => hd b hb (List.mem_append_right _ hb2)) hq⟩
     cases m with
     | zero => cases hv;cases hu';exact .f _ _ q1 q2
     | succ m => exact g5 m v u' hv hu'
theorem backK_rel {own : List (Nat × Nat × Nat)} {k : List V → Hp → R} : ∀ (i nid : Nat) (ts : List Nat) (xs : List FV) (us : List Value) (H : Hp) (β : LocOf) (acc : List V) (obs : List Nat),xs.length = ts.length → ResAll E w A own i ts xs us obs →
  St L B0 G T w0 F H a w A β → Unused β H obs → Fresh B0 G A obs → obs.Nodup → backK E own i nid ts xs H acc k = some res →
  ∃ vs H' β',k (acc.reverse ++ vs) H' = some res ∧ St L B0 G T w0 F H' a w A β' ∧ HExt β H β' H' ∧ vs.length = us.length ∧ ∀ (m : Nat) v u,vs[m]? = some v → us[m]? = some u → VR w A β' H' v u
 | i,nid,[],xs,us,H,β,acc,obs,hl,ho,st,hu,hfr,hnd,h => by
  have : xs = []:=List.eq_nil_of_length_eq_zero hl
  subst this
  cases us with
  | cons u us => exact ho.elim
  | nil =>
   simp only [backK] at h
   exact ⟨[],H,β,by simpa using h,st,HExt.refl β H,rfl,by simp⟩
 | i,nid,t :: ts,xs,us,H,β,acc,obs,hl,ho,st,hu,hfr,hnd,h => by
  cases xs with
  | nil => simp at hl
  | cons x xs =>
   cases us with
   | nil => exact ho.elim
   | cons u us =>
    obtain ⟨o1,o2,rfl,h1,h2⟩:=ho
    obtain ⟨n1,n2,n3⟩:=nodup_app hnd
    have hu1 : Unused β H o1:=fun b hb => hu b (List.mem_append_left _ hb)
    have hu2 : Unused β H o2:=fun b hb => hu b (List.mem_append_right _ hb)
    have hf1 : Fresh B0 G A o1:=fun b hb => hfr b (List.mem_append_left _ hb)
    have hf2 : Fresh B0 G A o2:=fun b hb => hfr b (List.mem_append_right _ hb)
    simp only [backK] at h
    cases hj : ownJ own i with
    | nil =>
     rw [hj] at h h1
     simp only at h
     simp only [ResOne] at h1
     obtain ⟨q1,q2,rfl⟩:=h1
     obtain ⟨v,v1,h,_⟩:=splitAs_rel (β:=β) (H:=H) q1 q2 h
     obtain ⟨vs,H',β',g1,g2,g3,g4,g5⟩:=backK_rel (i + 1) nid ts xs us H β _ o2 (by simpa using hl) h2 st hu2 hf2 n2 h
     refine ⟨v :: vs,H',β',by simpa using g1,g2,g3,by simp [g4],fun m y u' hv hu' => ?_⟩
     cases m with
     | zero => cases hv;cases hu';exact v1.mono (FExt.refl w A) g3
     | succ m => exact g5 m y u' hv hu'
    | cons j js =>
     rw [hj] at h h1
     simp only at h
     cases ha : (E.ty t).isAgg with
     | true =>
      simp only [ResOne,ha] at h1
      rw [ha] at h
      simp only at h
      obtain ⟨cs0,us0,rfl,rfl,h1⟩:=h1
      obtain ⟨hn,h⟩:=gB_some h
      have hn' : cs0.length = (E.ty t).size:=by simpa [fIsAgg] using hn
      obtain ⟨cs,nid',H1,β1,g1,g2,g3,g4,g5,g6⟩:=backCells_rel _ 0 nid cs0 us0 H β [] o1 hn' (by simp) h1 st hu1 hf1 n1 h
      obtain ⟨vs,H',β',r1,r2,r3,r4,r5⟩:=backK_rel (i + 1) nid' ts xs us H1 β1 _ o2 (by simpa using hl) h2 g2 (g6 o2 n3 hu2) hf2 n2 g1
      refine ⟨.agg cs :: vs,H',β',by simpa using r1,r2,g3.trans r3,by simp [r4],fun m y u' hv hu' => ?_⟩
      cases m with
      | zero => cases hv;cases hu';exact (VR.agg cs us0 g4 g5).mono (FExt.refl w A) r3
      | succ m => exact r5 m y u' hv hu'
     | false =>
      simp only [ResOne,ha] at h1
      rw [ha] at h
      simp only at h
      obtain ⟨r,hr,h⟩:=bindO_some h
      obtain ⟨hfree,h9⟩:=newB_some h
      have hxr : x = .arr r:=by unfold arrRows at hr;split at hr <;> cases hr;rfl
      subst hxr
      obtain ⟨β1,e1,st1,v1,k1⟩:=take_own st hfree h1 hu1 hf1
      obtain ⟨vs,H',β',r1,r2,r3,r4,r5⟩:=backK_rel (i + 1) (nid + 1) ts xs us _ β1 _ o2 (by simpa using hl) h2 st1 (k1 o2 n3 hu2) hf2 n2 h9
      refine ⟨.ref nid :: vs,H',β',by simpa using r1,r2,e1.trans r3,by simp [r4],fun m y u' hv hu' => ?_⟩
      cases m with
      | zero => cases hv;cases hu';exact v1.mono (FExt.refl w A) r3
      | succ m => exact r5 m y u' hv hu'
end
end Go.Proofs.YtpffkpaiihcffaaGreatDoor.VM
