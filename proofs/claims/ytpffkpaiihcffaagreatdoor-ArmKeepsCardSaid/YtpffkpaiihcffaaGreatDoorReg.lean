/- Regions that do not draw their order. -/
import Derived.Test.YtpffkpaiihcffaaGreatDoorOpSound
set_option linter.unusedVariables false
set_option linter.unusedSimpArgs false
set_option linter.unusedSectionVars false
namespace Go.Proofs.YtpffkpaiihcffaaGreatDoor.VM
open Go Go.RowKit
section
variable {P : Program} {E : Env} {L : List (Fr × Act)} {B0 : Nat} {G T : Nat → Prop} {w0 w w' : World} {A A' : Nat → Prop} {β : LocOf} {H : Hp} {F : Fr} {a : Act} {o : Oper}
variable {Q : Exit → Act → World → Prop} {res : FV} {call : Nat → List FV → Option FV} {inl : Inl}
theorem St.learn (st : St L B0 G T w0 F H a w A β) {d : Nat} {v : V} (hv : VR w A β H v (a.tmps.getD d undef)) : St L B0 G T w0 (F.set d v) H a w A β:=⟨st.fr.learn d hv,st.hp,st.below⟩
theorem St.put (st : St L B0 G T w0 F H a w A β) (d : Option Nat) {v : V} {u : Value} (hv : VR w A β H v u) : St L B0 G T w0 (putV F d v) H (a.put d u) w A β:=⟨st.fr.put d hv,st.hp,st.below⟩
theorem St.frees (st : St L B0 G T w0 F H a w A β) (n : Nat) : ∃ β',St L B0 G T w0 F (H ++ frees n) a w A β':=by
 obtain ⟨he,hp⟩:=frees_rel st.hp n
 exact ⟨_,st.fr.mono (FExt.refl w A) he,hp,st.below⟩
theorem St.close (base : Nat) (st : St L B0 G T w0 F H a w A β) : St L B0 G T w0 F (close base H) a w A β:=by
 obtain ⟨he,hp⟩:=close_rel base st.hp
 exact ⟨st.fr.mono (FExt.refl w A) he,hp,st.below⟩
theorem guard_sound {ops : Array Oper} {run skip : Fr → R} (h : guardK ops o F run skip = some res) (st : St L B0 G T w0 F H a w A β) :
  (Region.wanted o (yielded ops a.tmps) = true ∧ ∃ F',run F' = some res ∧ St L B0 G T w0 F' H a w A β) ∨ (Region.wanted o (yielded ops a.tmps) = false ∧ ∃ F',skip F' = some res ∧ St L B0 G T w0 F' H a w A β):=by
 unfold guardK at h
 unfold Region.wanted
 cases hg : o.guard with
 | none => rw [hg] at h;exact .inl ⟨rfl,F,h,st⟩
 | some p =>
  obtain ⟨j,want⟩:=p
  rw [hg] at h
  simp only at h ⊢
  cases hj : ops[j]? with
  | none => rw [hj] at h;cases h
  | some oj =>
   rw [hj] at h
   simp only at h
   cases hd : oj.dst with
   | none => rw [hd] at h;cases h
   | some d =>
    rw [hd] at h
    simp only at h
    have hyd : yielded ops a.tmps j = match a.tmps[d]? with | some (.bool b) => some b | _ => none:=by
     simp only [yielded,hj,hd,Option.bind_some]
     rfl
    have hv:=getF_rel st.fr d
    have hin : getF F d ≠ .un → a.tmps[d]? = some (a.tmps.getD d undef):=by
     intro hne
     have hlt : d < F.length:=by
      rcases Nat.lt_or_ge d F.length with h1 | h1
      ·exact h1
      ·exact absurd (by unfold getF;rw [List.getElem?_eq_none h1]) hne
     have : d < a.tmps.size:=by rw [st.fr.size];exact hlt
     simp [this]
    generalize hgf : getF F d = v at h hv hin
    cases v with
    | tup cs =>
     cases cs with
     | nil =>
      simp only at h
      refine .inr ⟨?_,F,h,st⟩
      rw [hyd,hin (by simp)]
      generalize hu : a.tmps.getD d undef = u at hv
      cases hv with
      | tup _ us hl hx => simp
     | cons c cs => simp [condV] at h
    | f x =>
     simp only [condV] at h
     have hval:=hin (by simp)
     have hfr:=hv.f'.1
     rcases fCond_some h with ⟨rfl,h⟩ | ⟨rfl,h⟩
     ·have hb:=FR_bool hfr
      have hy : yielded ops a.tmps j = some true:=by rw [hyd,hval,hb]
      have st1 : St L B0 G T w0 (F.set d (.f (.bool true))) H a w A β:=st.learn (by rw [hb];exact .f _ _ (.bool _) rfl)
      cases want
      ·exact .inr ⟨by rw [hy];rfl,_,h,st1⟩
      ·exact .inl ⟨by rw [hy];rfl,_,h,st1⟩
     ·have hb:=FR_bool hfr
      have hy : yielded ops a.tmps j = some false:=by rw [hyd,hval,hb]
      have st1 : St L B0 G T w0 (F.set d (.f (.bool false))) H a w A β:=st.learn (by rw [hb];exact .f _ _ (.bool _) rfl)
      cases want
      ·exact .inl ⟨by rw [hy];rfl,_,h,st1⟩
      ·exact .inr ⟨by rw [hy];rfl,_,h,st1⟩
    | _ => simp [condV] at h
def After (L : List (Fr × Act)) (B0 : Nat) (G T : Nat → Prop) (w0 : World) (res : FV) (k : Fr → Hp → R) (N : Act → World → Prop) : Prop :=
 ∀ F H a w A β,k F H = some res → St L B0 G T w0 F H a w A β → N a w
theorem opsK_sound (ok : EnvOk P E) (spec : CallSpec P E call) (ispec : InlSpec P E inl) {cuts : List Nat} {ops : Array Oper} {k : Fr → Hp → R} (base : Nat) (hk : After L B0 G T w0 res k (Q .normal)) : ∀ (l : List Nat) (F : Fr) (H : Hp) (a : Act) (w : World) (A : Nat → Prop) (β : LocOf),
  opsK E call inl cuts ops base l F H k = some res → St L B0 G T w0 F H a w A β → wpOps P ops Q l a w
 | [],F,H,a,w,A,β,h,st => by
  simp only [opsK] at h
  simp only [wpOps]
  exact hk _ _ _ _ _ _ h (st.close base)
 | i :: l,F,H,a,w,A,β,h,st => by
  simp only [opsK] at h
  simp only [wpOps]
  split at h
  ·cases h
  ·rename_i o ho
   simp only [ho]
   rcases guard_sound h st with ⟨hw,F',h1,st1⟩ | ⟨hw,F',h1,st1⟩
   ·rw [if_pos hw]
    obtain ⟨β2,st2⟩:=st1.frees (news E cuts ops o)
    refine .inl (opK_sound ok spec ispec h1 st2 ?_)
    intro v H' u w' A' β' h3 hv st3
    exact opsK_sound ok spec ispec base hk l _ _ _ _ _ _ h3 (st3.put o.dst hv)
   ·rw [if_neg (by rw [hw];simp)]
    exact opsK_sound ok spec ispec base hk l _ _ _ _ _ _ h1 (st1.put o.dst (VR.tup [] [] rfl (by simp)))
end
end Go.Proofs.YtpffkpaiihcffaaGreatDoor.VM
