/- Regions that draw: whatever order is drawn. -/
import Derived.Test.YtpffkpaiihcffaaGreatDoorDraw7
import Derived.Orders
set_option linter.unusedVariables false
set_option linter.unusedSimpArgs false
set_option linter.unusedSectionVars false
namespace Go.Proofs.YtpffkpaiihcffaaGreatDoor.VM
open Go Go.RowKit
section
variable {P : Program} {E : Env} {L : List (Fr × Act)} {B0 : Nat} {G T : Nat → Prop} {w0 w w' : World} {A A' : Nat → Prop} {β : LocOf} {H H' : Hp} {F : Fr} {a : Act} {o : Oper}
variable {Q : Exit → Act → World → Prop} {res : FV} {call : Nat → List FV → Option FV} {inl : Inl} {cuts : List Nat} {ops : Array Oper} {nid base : Nat}
theorem guard_wanted {r : Bool} (g : Guard ops o F r) (st : St L B0 G T w0 F H a w A β) : Region.wanted o (yielded ops a.tmps) = r:=by
 cases g with
 | none hg => simp [Region.wanted,hg]
 | skipped j want hg d hd hv =>
  have hk : guardK ops o F (fun _ => none) (fun _ => some .undef) = some .undef:=by
   unfold guardK
   rw [hg]
   simp only
   cases hj : ops[j]? with
   | none => simp [dstAt,hj] at hd
   | some oj =>
    simp only [dstAt,hj] at hd
    simp only [hd,hv]
  rcases guard_sound hk st with ⟨_,F',h,_⟩ | ⟨h,_⟩
  ·cases h
  ·exact h
 | at_ j want hg d hd b hv r hr =>
  subst hr
  have hk : guardK ops o F (fun _ => match b == want with | true => some .undef | false => none) (fun _ => match b == want with | true => none | false => some .undef) = some .undef:=by
   unfold guardK
   rw [hg]
   simp only
   cases hj : ops[j]? with
   | none => simp [dstAt,hj] at hd
   | some oj =>
    simp only [dstAt,hj] at hd
    simp only [hd,hv,condV]
    cases b <;> cases want <;> rfl
  rcases guard_sound hk st with ⟨h1,F',h2,_⟩ | ⟨h1,F',h2,_⟩
  ·rw [h1]
   split at h2
   ·rename_i e;exact e.symm
   ·cases h2
  ·rw [h1]
   split at h2
   ·cases h2
   ·rename_i e;exact e.symm
theorem step_wp (ok : EnvOk P E) (spec : CallSpec P E call) (ispec : InlSpec P E inl) {kd : Kd} {v : V} {i : Nat} {K : Act → World → Prop} (hi : ops[i]? = some o) (h : StepV E call inl cuts ops nid kd o F H v H') (st : St L B0 G T w0 F H a w A β)
  (hK : ∀ a' w' A' β',St L B0 G T w0 (putV F o.dst v) H' a' w' A' β' → K a' w') : wpOp P ops Q i K a w:=by
 unfold wpOp
 simp only [hi]
 have run : Guard ops o F true → (∀ k2,opK E call inl cuts ops o nid F H k2 = k2 v H') → (if Region.wanted o (yielded ops a.tmps) = true then o.wp P a w K Q ∨ (o.asks P a w ∧ LetsOut Q) else K (a.put o.dst undef) w):=by
  intro hg hd
  rw [if_pos (guard_wanted hg st)]
  obtain ⟨k,k1,k2⟩:=indic v H' .undef
  refine .inl (opK_sound ok spec ispec ((hd k).trans k1) st ?_)
  intro v2 H2 u w' A' β' h3 hv st3
  obtain ⟨rfl,rfl⟩:=k2 _ _ _ h3
  exact hK _ _ _ _ (st3.put o.dst hv)
 cases kd with
 | skip =>
  obtain ⟨hg,rfl,rfl⟩:=h
  rw [if_neg (by rw [guard_wanted hg st];simp)]
  exact hK _ _ _ _ (st.put o.dst (VR.tup [] [] rfl (by simp)))
 | light T =>
  obtain ⟨hg,_,rfl,hd⟩:=h
  exact run hg (hd _ (Agree.refl _ _)).2
 | heavy U => exact run h.1 h.2.2
 | call U => exact run h.1 h.2.2
 | quick =>
  obtain ⟨hg,_,b,_,hf,rfl,hd⟩:=h
  exact run hg (hd _ hf)
structure Left (ops : Array Oper) (ord : List (Nat × List Nat)) (listed : Array Bool) (l : List Ent) : Prop where
 size : listed.size = ops.size
 inn : ∀ i,listed.getD i true = false ↔ ∃ e ∈ l,e.i = i
 nodup : l.Pairwise fun x y => x.i ≠ y.i
 preds : ∀ l1 e l2,l = l1 ++ e :: l2 → ∀ o,ops[e.i]? = some o → ∀ q ∈ preds o,listed.getD q false = true ∨ ∃ x ∈ l1,x.i = q
 sub : ∀ e ∈ l,(e.i,e.anc) ∈ ord
 closed : ∀ p ∈ ord,listed.getD p.1 false = true → ∀ x ∈ p.2,listed.getD x false = true
def Waits (ops : Array Oper) (ord : List (Nat × List Nat)) : Prop:=∀ p ∈ ord,∃ o,ops[p.1]? = some o ∧ ∀ x ∈ p.2,x ∈ preds o ∨ ∃ q ∈ ord,q.1 ∈ preds o ∧ x ∈ q.2
theorem mem_preds {q : Nat} : q ∈ preds o ↔ ∃ e ∈ o.after,Region.binds .any e = true ∧ e.on = q:=by
 unfold preds
 simp only [List.mem_filterMap]
 constructor
 ·rintro ⟨e,he,h⟩
  split at h
  ·rename_i hb
   cases h
   exact ⟨e,by simpa using he,hb,rfl⟩
  ·cases h
 ·rintro ⟨e,he,hb,rfl⟩
  exact ⟨e,by simpa using he,by simp [hb]⟩
theorem getD_of {listed : Array Bool} {i : Nat} (h : listed.getD i false = true) : listed.getD i true = true:=by
 rw [Array.getD_eq_getD_getElem?] at h ⊢
 cases hi : listed[i]? with
 | none => rfl
 | some b => rw [hi] at h;exact h
theorem getD_lt {listed : Array Bool} {i : Nat} (h : listed.getD i true = false) : i < listed.size:=by
 rw [Array.getD_eq_getD_getElem?] at h
 cases hi : listed[i]? with
 | none => rw [hi] at h;cases h
 | some b => exact (Array.getElem?_eq_some_iff.1 hi).1
theorem getD_set {listed : Array Bool} {i j : Nat} {d : Bool} (hi : i < listed.size) : (listed.setIfInBounds i true).getD j d = if i = j then true else listed.getD j d:=by
 rw [Array.getD_eq_getD_getElem?,Array.getElem?_setIfInBounds,Array.getD_eq_getD_getElem?]
 split
 ·rename_i e
  subst e
  simp [hi]
 ·rfl
theorem Left.anc_done {ord : List (Nat × List Nat)} {listed : Array Bool} {l : List Ent} (hl : Left ops ord listed l) (hw : Waits ops ord) {y : Ent} (hy : y ∈ l) (hr : y.i ∈ Region.ready .any ops listed) : ∀ x ∈ y.anc,listed.getD x false = true:=by
 intro x hx
 obtain ⟨_,o,ho,hp⟩:=mem_ready.1 hr
 have hp' : ∀ q ∈ VM.preds o,listed.getD q false = true:=fun q hq => by
  obtain ⟨e,he,hb,rfl⟩:=mem_preds.1 hq
  exact hp e he hb
 obtain ⟨o',ho',hx'⟩:=hw _ (hl.sub y hy)
 rw [ho] at ho'
 cases ho'
 rcases hx' x hx with h1 | ⟨q,hq,h1,h2⟩
 ·exact hp' x h1
 ·exact hl.closed q hq (hp' _ h1) x h2
theorem walk (ok : EnvOk P E) (spec : CallSpec P E call) (ispec : InlSpec P E inl) {k : Fr → Hp → R} (hk : After L B0 G T w0 res k (Q .normal)) {ord : List (Nat × List Nat)} (hw : Waits ops ord) (hu : ∀ p ∈ ord,∀ q ∈ ord,p.1 = q.1 → p = q) : ∀ (fuel : Nat) (listed : Array Bool) (l : List Ent) (F : Fr) (H : Hp) (a : Act) (w : World) (A : Nat → Prop) (β : LocOf),
  l.length = fuel → Left ops ord listed l → l.Pairwise (Comm ops) → Chain E call inl cuts ops base l F H (fun F H => k F (close base H) = some res) → St L B0 G T w0 F H a w A β → wpAny P .any ops Q fuel listed a w
 | 0,listed,l,F,H,a,w,A,β,hlen,hl,hp,hc,st => by
  obtain rfl : l = []:=List.eq_nil_of_length_eq_zero hlen
  refine ⟨?_,hk _ _ _ _ _ _ hc (st.close base)⟩
  rw [List.eq_nil_iff_forall_not_mem]
  intro i hi
  obtain ⟨e,he,_⟩:=(hl.inn i).1 (mem_ready.1 hi).1
  cases he
 | fuel + 1,listed,l,F,H,a,w,A,β,hlen,hl,hp,hc,st => by
  have hne : ∃ e l',l = e :: l':=by
   cases l with
   | nil => cases hlen
   | cons e l' => exact ⟨e,l',rfl⟩
  refine ⟨fun hr => ?_,fun i hi => ?_⟩
  ·obtain ⟨e,l',rfl⟩:=hne
   exfalso
   obtain ⟨o,v,H1,ho,_,_⟩:=hc
   have : e.i ∈ Region.ready .any ops listed:=by
    refine mem_ready.2 ⟨(hl.inn e.i).2 ⟨e,by simp,rfl⟩,o,ho,fun d hd hb => ?_⟩
    rcases hl.preds [] e l' rfl o ho d.on (mem_preds.2 ⟨d,hd,hb,rfl⟩) with h1 | ⟨x,hx,_⟩
    ·exact h1
    ·cases hx
   rw [hr] at this
   cases this
  ·obtain ⟨y,hy,rfl⟩:=(hl.inn i).1 (mem_ready.1 hi).1
   obtain ⟨l1,l2,rfl⟩:=List.append_of_mem hy
   have hanc:=hl.anc_done hw hy hi
   have hfree : ∀ x ∈ l1,Free ops x y:=by
    intro x hx
    rcases (List.pairwise_append.1 hp).2.2 x hx y (by simp) with h1 | h1
    ·have h2:=getD_of (hanc _ h1)
     have h3:=(hl.inn x.i).2 ⟨x,by simp [hx],rfl⟩
     rw [h2] at h3
     cases h3
    ·exact h1
   obtain ⟨o,v,H1,ho,hs,hc2⟩:=Chain.front l1 hfree hc
   refine step_wp ok spec ispec ho hs st fun a' w' A' β' st' => ?_
   have hlt : y.i < listed.size:=getD_lt ((hl.inn y.i).2 ⟨y,by simp,rfl⟩)
   have hnd : ∀ x ∈ l1 ++ l2,x.i ≠ y.i:=by
    have h1:=List.pairwise_append.1 hl.nodup
    have h2:=List.pairwise_cons.1 h1.2.1
    intro x hx
    rcases List.mem_append.1 hx with hx | hx
    ·exact h1.2.2 x hx y (by simp)
    ·exact Ne.symm (h2.1 x hx)
   refine walk ok spec ispec hk hw hu fuel _ (l1 ++ l2) _ _ _ _ _ _ (by simp at hlen ⊢;omega) ⟨by simpa using hl.size,?_,?_,?_,?_,?_⟩ (hp.sublist (by simp)) hc2 st'
   ·intro j
    rw [getD_set hlt]
    constructor
    ·intro h
     split at h
     ·cases h
     ·rename_i hne
      obtain ⟨e,he,rfl⟩:=(hl.inn j).1 h
      rcases List.mem_append.1 he with he | he
      ·exact ⟨e,by simp [he],rfl⟩
      ·rcases List.mem_cons.1 he with rfl | he
       ·exact absurd rfl hne
       ·exact ⟨e,by simp [he],rfl⟩
    ·rintro ⟨e,he,rfl⟩
     rw [if_neg (Ne.symm (hnd e he))]
     exact (hl.inn e.i).2 ⟨e,by rcases List.mem_append.1 he with he | he <;> simp [he],rfl⟩
   ·exact hl.nodup.sublist (by simp)
   ·intro m1 e m2 he o' ho' q hq
    rw [getD_set hlt]
    by_cases hqy : y.i = q
    ·exact .inl (by simp [hqy])
    ·rw [if_neg hqy]
     rcases List.append_eq_append_iff.1 he with ⟨c,h1,h2⟩ | ⟨c,h1,h2⟩
     ·
      rcases hl.preds (l1 ++ y :: c) e m2 (by rw [h2];simp) o' ho' q hq with h3 | ⟨x,hx,h3⟩
      ·exact .inl h3
      ·refine .inr ⟨x,?_,h3⟩
       rw [h1]
       rcases List.mem_append.1 hx with hx | hx
       ·simp [hx]
       ·rcases List.mem_cons.1 hx with rfl | hx
        ·exact absurd h3 hqy
        ·simp [hx]
     ·cases c with
      | nil =>
       simp only [List.nil_append,List.append_nil] at h1 h2
       subst h1
       rcases hl.preds (l1 ++ [y]) e m2 (by rw [← h2];simp) o' ho' q hq with h3 | ⟨x,hx,h3⟩
       ·exact .inl h3
       ·rcases List.mem_append.1 hx with hx | hx
        ·exact .inr ⟨x,hx,h3⟩
        ·simp only [List.mem_singleton] at hx
         subst hx
         exact absurd h3 hqy
      | cons c0 c =>
       simp only [List.cons_append,List.cons.injEq] at h2
       obtain ⟨rfl,h2⟩:=h2
       exact hl.preds m1 e (c ++ y :: l2) (by rw [h1];simp) o' ho' q hq
   ·intro e he
    exact hl.sub e (by rcases List.mem_append.1 he with he | he <;> simp [he])
   ·intro p hp' hd x hx
    rw [getD_set hlt]
    split
    ·rfl
    ·rw [getD_set hlt] at hd
     split at hd
     ·rename_i he
      have:=hu p hp' _ (hl.sub y (by simp)) he.symm
      subst this
      exact hanc x hx
     ·exact hl.closed p hp' hd x hx
theorem OrdOk.at_ : ∀ (rest done : List (Nat × List Nat)),OrdOk ops done rest → ∀ r1 p r2,rest = r1 ++ p :: r2 → ∃ o,ops[p.1]? = some o ∧ (∀ d,d ∈ done ∨ d ∈ r1 → d.1 ≠ p.1) ∧ (∀ q ∈ preds o,∃ d,(d ∈ done ∨ d ∈ r1) ∧ d.1 = q) ∧
  ∀ x ∈ p.2,x ∈ preds o ∨ ∃ d,(d ∈ done ∨ d ∈ r1) ∧ d.1 ∈ preds o ∧ x ∈ d.2
 | [],done,h,r1,p,r2,he => by simp at he
 | (i,anc) :: rest,done,h,r1,p,r2,he => by
  obtain ⟨⟨o,h1,h2,h3,h4,_⟩,h5⟩:=h
  cases r1 with
  | nil =>
   simp only [List.nil_append,List.cons.injEq] at he
   obtain ⟨rfl,rfl⟩:=he
   exact ⟨o,h1,fun d hd => h2 d (hd.resolve_right (by simp)),fun q hq => let ⟨d,hd,e⟩:=h3 q hq;⟨d,.inl hd,e⟩,fun x hx => (h4 x hx).imp_right fun ⟨d,hd,e⟩ => ⟨d,.inl hd,e⟩⟩
  | cons c r1 =>
   simp only [List.cons_append,List.cons.injEq] at he
   obtain ⟨rfl,he⟩:=he
   obtain ⟨o',k1,k2,k3,k4⟩:=OrdOk.at_ rest _ h5 r1 p r2 he
   have mv : ∀ d,(d ∈ (i,anc) :: done ∨ d ∈ r1) ↔ (d ∈ done ∨ d ∈ (i,anc) :: r1):=fun d => ⟨fun h => h.elim (fun h => (List.mem_cons.1 h).elim (fun e => .inr (by simp [e])) .inl) (fun h => .inr (List.mem_cons_of_mem _ h)),fun h => h.elim (fun h => .inl (List.mem_cons_of_mem _ h)) (fun h => (List.mem_cons.1 h).elim (fun e => .inl (by simp [e])) .inr)⟩
   exact ⟨o',k1,fun d hd => k2 d ((mv d).2 hd),fun q hq => let ⟨d,hd,e⟩:=k3 q hq;⟨d,(mv d).1 hd,e⟩,fun x hx => (k4 x hx).imp_right fun ⟨d,hd,e⟩ => ⟨d,(mv d).1 hd,e⟩⟩
theorem filter_ne (n : Nat) : ∀ (l : List Nat),l.Nodup → l.length ≤ (l.filter fun x => x != n).length + 1
 | [],h => by simp
 | x :: l,h => by
  obtain ⟨h1,h2⟩:=List.nodup_cons.1 h
  by_cases hx : x = n
  ·subst hx
   have : l.filter (fun y => y != x) = l:=List.filter_eq_self.2 fun y hy => by
    have : y ≠ x:=fun e => h1 (e ▸ hy)
    simp [this]
   simp [this]
  ·have:=filter_ne n l h2
   simp only [List.filter_cons]
   rw [if_pos (by simp [hx])]
   simp only [List.length_cons]
   omega
theorem nodup_le : ∀ (n : Nat) (l : List Nat),l.Nodup → (∀ x ∈ l,x < n) → l.length ≤ n
 | 0,l,h,hl => by
  cases l with
  | nil => simp
  | cons x l => have:=hl x (by simp);omega
 | n + 1,l,h,hl => by
  have h1:=filter_ne n l h
  have h2:=nodup_le n (l.filter fun x => x != n) (h.sublist List.filter_sublist) fun x hx => by
   obtain ⟨hx,hn⟩:=List.mem_filter.1 hx
   have:=hl x hx
   have : x ≠ n:=by simpa using hn
   omega
  omega
theorem all_in {n : Nat} {l : List Nat} (h : l.Nodup) (hl : ∀ x ∈ l,x < n) (hn : l.length = n) {i : Nat} (hi : i < n) : i ∈ l:=by
 by_cases hm : i ∈ l
 ·exact hm
 ·have:=nodup_le n (i :: l) (List.nodup_cons.2 ⟨hm,h⟩) (by simpa [hi] using hl)
  simp at this
  omega
theorem drawSpec (ok : EnvOk P E) : DrawSpec P E:=by
 intro call inl L B0 G T w0 res Q cuts ops ord id k F H a w A β spec ispec hk ho h st
 unfold okOrd at ho
 simp only [Bool.and_eq_true] at ho
 have hsz:=Nat.eq_of_beq_eq_true ho.1
 have hord:=okGo_spec _ _ ho.2
 obtain ⟨l,h1,h2,h3,_⟩:=of_opsDK ispec.1 _ _ _ _ _ _ h hord
 have pos:=OrdOk.at_ _ _ hord
 have hlen : l.length = ops.size:=by rw [← hsz,← h1];simp
 obtain ⟨β2,st2⟩:=st.frees (total E cuts ops)
 have st3 : St L B0 G T w0 F (H ++ frees (total E cuts ops)) a w.drew A β2:=by
  have g:=Grows.drew w
  exact st2.mono (g.fext st2.hp.lt) (HExt.refl _ _) (st2.hp.grow g (fun _ hb => hb) fun b hb => .inl hb) (st2.below_grow g)
 have nd : l.Pairwise fun x y => x.i ≠ y.i:=by
  have : ∀ (l1 l2 : List Ent),l = l1 ++ l2 → l2.Pairwise fun x y => x.i ≠ y.i:=by
   intro l1 l2
   induction l2 generalizing l1 with
   | nil => exact fun _ => .nil
   | cons x l2 ih =>
    intro he
    refine List.pairwise_cons.2 ⟨fun y hy => ?_,ih (l1 ++ [x]) (by simp [he])⟩
    obtain ⟨m1,m2,rfl⟩:=List.append_of_mem hy
    obtain ⟨o,_,k2,_⟩:=pos ((l1 ++ x :: m1).map fun e => (e.i,e.anc)) (y.i,y.anc) (m2.map fun e => (e.i,e.anc)) (by rw [← h1,he];simp)
    exact k2 (x.i,x.anc) (.inr (by simp))
  exact this [] l rfl
 have entry : ∀ p ∈ ord,∃ r1 r2,ord = r1 ++ p :: r2:=fun p hp => List.append_of_mem hp
 have hlt : ∀ e ∈ l,e.i < ops.size:=by
  intro e he
  obtain ⟨r1,r2,hr⟩:=entry (e.i,e.anc) (by rw [← h1];exact List.mem_map.2 ⟨e,he,rfl⟩)
  obtain ⟨o,k1,_⟩:=pos r1 _ r2 hr
  exact (Array.getElem?_eq_some_iff.1 k1).1
 refine wp_region_any ok.mixed (walk ok spec ispec hk (ord:=ord) ?_ ?_ ops.size _ l _ _ _ _ _ _ hlen ⟨by simp,?_,nd,?_,?_,?_⟩ h3 h2 st3)
 ·intro p hp
  obtain ⟨r1,r2,hr⟩:=entry p hp
  obtain ⟨o,k1,_,_,k4⟩:=pos r1 p r2 hr
  exact ⟨o,k1,fun x hx => (k4 x hx).imp_right fun ⟨d,hd,e⟩ => ⟨d,by rw [hr];simp [hd.resolve_left (by simp)],e⟩⟩
 ·intro p hp q hq he
  obtain ⟨r1,r2,hr⟩:=entry p hp
  rw [hr] at hq
  rcases List.mem_append.1 hq with hq | hq
  ·obtain ⟨o,_,k2,_⟩:=pos r1 p r2 hr
   exact absurd he.symm (k2 q (.inr hq))
  ·rcases List.mem_cons.1 hq with hq | hq
   ·exact hq.symm
   ·obtain ⟨m1,m2,rfl⟩:=List.append_of_mem hq
    obtain ⟨o,_,k2,_⟩:=pos (r1 ++ p :: m1) q m2 (by rw [hr];simp)
    exact absurd he (k2 p (.inr (by simp)))
 ·intro i
  constructor
  ·intro hi
   have hi':=getD_lt hi
   simp only [Array.size_replicate] at hi'
   have : i ∈ l.map fun e => e.i:=all_in (n:=ops.size) (by
    rw [List.nodup_iff_pairwise_ne,List.pairwise_map]
    exact nd) (by intro x hx;obtain ⟨e,he,rfl⟩:=List.mem_map.1 hx;exact hlt e he) (by simp [hlen]) hi'
   obtain ⟨e,he,rfl⟩:=List.mem_map.1 this
   exact ⟨e,he,rfl⟩
  ·rintro ⟨e,he,rfl⟩
   have:=hlt e he
   simp [Array.getD_eq_getD_getElem?,this]
 ·intro l1 e l2 he o' ho' q hq
  obtain ⟨o,k1,_,k3,_⟩:=pos (l1.map fun e => (e.i,e.anc)) (e.i,e.anc) (l2.map fun e => (e.i,e.anc)) (by rw [← h1,he];simp)
  rw [ho'] at k1
  cases k1
  obtain ⟨d,hd,rfl⟩:=k3 q hq
  obtain ⟨x,hx,rfl⟩:=List.mem_map.1 (hd.resolve_left (by simp))
  exact .inr ⟨x,hx,rfl⟩
 ·intro e he
  rw [← h1]
  exact List.mem_map.2 ⟨e,he,rfl⟩
 ·intro p hp hd
  rw [Array.getD_eq_getD_getElem?,Array.getElem?_replicate] at hd
  split at hd <;> cases hd
end
end Go.Proofs.YtpffkpaiihcffaaGreatDoor.VM
