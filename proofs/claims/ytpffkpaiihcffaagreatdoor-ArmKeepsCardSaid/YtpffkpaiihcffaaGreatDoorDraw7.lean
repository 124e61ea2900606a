/- Regions that draw: two operations that stand side by side and do not wait for one another may be taken the other way round. -/
import Derived.Test.YtpffkpaiihcffaaGreatDoorDraw6
set_option linter.unusedVariables false
set_option linter.unusedSimpArgs false
set_option linter.unusedSectionVars false
namespace Go.Proofs.YtpffkpaiihcffaaGreatDoor.VM
open Go Go.RowKit
inductive Kd where
 | skip | light (T : List Tok) | heavy (U : List Tok) | quick | call (U : List Tok)
structure Ent where
 i : Nat
 anc : List Nat
 kd : Kd
section
variable {E : Env} {call : Nat → List FV → Option FV} {inl : Inl} {cuts : List Nat} {ops : Array Oper} {o : Oper} {nid : Nat} {F F2 : Fr} {H H2 : Hp} {res : FV} {U : List Tok} {n : Nat} {b : Blk}
theorem touch_once (ht : touch E cuts o F H = some U) : Once (fun k => opK E call inl cuts ops o nid F H k):=by
 refine opK_once ?_ ?_ ?_
 ·intro c fo g caps ho hc hfo hm
  simp only [touch,ho,hc] at ht
  split at ht
  ·rename_i e;cases e
  ·rename_i g' e
   cases e
   simp only [evalV,V.func.injEq] at hfo
   obtain ⟨rfl,_⟩:=hfo
   rw [hm] at ht
   cases ht
  ·rename_i fo' _ e
   cases e
   rw [hfo] at ht
   cases ht
  ·cases ht
 ·intro x b ho
  simp only [touch,ho] at ht
  cases ht
 ·intro op xt x y yt ho
  simp only [touch,ho] at ht
  cases ht
theorem indic (v0 : V) (H0 : Hp) (r : FV) : ∃ k : V → Hp → R,k v0 H0 = some r ∧ ∀ v H res,k v H = some res → v = v0 ∧ H = H0:=by
 classical
 refine ⟨fun v H => if v = v0 ∧ H = H0 then some r else none,by simp,fun v H res h => ?_⟩
 simp only at h
 split at h
 ·assumption
 ·cases h
def StepV (E : Env) (call : Nat → List FV → Option FV) (inl : Inl) (cuts : List Nat) (ops : Array Oper) (nid : Nat) (kd : Kd) (o : Oper) (F : Fr) (H : Hp) (v : V) (H' : Hp) : Prop:=match kd with
 | .skip => Guard ops o F false ∧ v = .tup [] ∧ H' = H
 | .light T => Guard ops o F true ∧ reads E cuts ops o F H = some T ∧ H' = H ∧ ∀ H2,Agree T H H2 → reads E cuts ops o F H2 = some T ∧ ∀ k2,opK E call inl cuts ops o nid F H2 k2 = k2 v H2
 | .heavy U => Guard ops o F true ∧ touch E cuts o F H = some U ∧ ∀ k2,opK E call inl cuts ops o nid F H k2 = k2 v H'
 | .call U => Guard ops o F true ∧ UnchW U H H' ∧ ∀ k2,opK E call inl cuts ops o nid F H k2 = k2 v H'
 | .quick => Guard ops o F true ∧ quick ops o F = true ∧ ∃ b,b.fresh = true ∧ H[nid]? = some .free ∧ H' = H.set nid b ∧ ∀ H2 : Hp,H2[nid]? = some .free → ∀ k2,opK E call inl cuts ops o nid F H2 k2 = k2 v (H2.set nid b)
theorem StepV.congr {kd : Kd} {v : V} {H' : Hp} (hs : SameOps o F F2) (hg : ∀ r,Guard ops o F r → Guard ops o F2 r) (h : StepV E call inl cuts ops nid kd o F H v H') : StepV E call inl cuts ops nid kd o F2 H v H':=by
 cases kd with
 | skip => exact ⟨hg _ h.1,h.2⟩
 | light T =>
  refine ⟨hg _ h.1,(reads_congr hs).symm.trans h.2.1,h.2.2.1,fun H2 ha => ?_⟩
  obtain ⟨h1,h2⟩:=h.2.2.2 H2 ha
  exact ⟨(reads_congr hs).symm.trans h1,fun k2 => by rw [← opK_congr hs];exact h2 k2⟩
 | heavy U => exact ⟨hg _ h.1,(touch_congr hs).symm.trans h.2.1,fun k2 => by rw [← opK_congr hs];exact h.2.2 k2⟩
 | call U => exact ⟨hg _ h.1,h.2.1,fun k2 => by rw [← opK_congr hs];exact h.2.2 k2⟩
 | quick =>
  obtain ⟨h1,h2,b,h3,h4,h5,h6⟩:=h
  exact ⟨hg _ h1,(quick_congr hs).symm.trans h2,b,h3,h4,h5,fun H2 h7 k2 => by rw [← opK_congr hs];exact h6 H2 h7 k2⟩
theorem SameOps.symm (h : SameOps o F F2) : SameOps o F2 F:=fun x hx => (h x hx).symm
theorem StepV.put {kd : Kd} {v u : V} {H' : Hp} {d : Option Nat} (hd : ∀ e,d = some e → e ∉ looks ops o) (h : StepV E call inl cuts ops nid kd o (putV F d u) H v H') : StepV E call inl cuts ops nid kd o F H v H' :=
 h.congr (SameOps.put hd) fun r g => g.put hd
theorem StepV.put' {kd : Kd} {v u : V} {H' : Hp} {d : Option Nat} (hd : ∀ e,d = some e → e ∉ looks ops o) (h : StepV E call inl cuts ops nid kd o F H v H') : StepV E call inl cuts ops nid kd o (putV F d u) H v H' :=
 h.congr (SameOps.put hd).symm fun r g => g.put' hd
def kcomm : Kd → Kd → Prop
 | .skip,_ => True
 | _,.skip => True
 | .light _,.light _ => True
 | .light T,.heavy U => disj U T = true
 | .light T,.call U => disj U T = true
 | .light _,.quick => True
 | .heavy _,.quick => True
 | .quick,.quick => True
 | _,_ => False
theorem does_unch {v : V} {H' : Hp} (ht : touch E cuts o F H = some U) (h : ∀ k2,opK E call inl cuts ops o nid F H k2 = k2 v H') : Unch U H H':=by
 obtain ⟨k,hk1,hk2⟩:=indic v H' .undef
 obtain ⟨v1,H1,h1,h2⟩:=heavy_unch ht ((h k).trans hk1)
 obtain ⟨_,rfl⟩:=hk2 _ _ _ h1
 exact h2
theorem swapV {x y : Oper} {nx ny : Nat} {kx ky : Kd} {vx vy : V} {H1 H2 : Hp} (hc : kcomm kx ky) (hx : StepV E call inl cuts ops nx kx x F H vx H1) (hy : StepV E call inl cuts ops ny ky y F H1 vy H2) :
  ∃ H1',StepV E call inl cuts ops ny ky y F H vy H1' ∧ StepV E call inl cuts ops nx kx x F H1' vx H2:=by
 cases kx with
 | skip =>
  obtain ⟨h1,h2,rfl⟩:=hx
  exact ⟨H2,hy,h1,h2,rfl⟩
 | light T =>
  obtain ⟨h1,h2,rfl,h3⟩:=hx
  cases ky with
  | skip =>
   obtain ⟨k1,k2,rfl⟩:=hy
   exact ⟨_,⟨k1,k2,rfl⟩,h1,h2,rfl,h3⟩
  | light T' =>
   obtain ⟨k1,k2,rfl,k3⟩:=hy
   exact ⟨_,⟨k1,k2,rfl,k3⟩,h1,h2,rfl,h3⟩
  | heavy U =>
   obtain ⟨k1,k2,k3⟩:=hy
   have ha:=(does_unch k2 k3).agree hc
   exact ⟨_,⟨k1,k2,k3⟩,h1,(h3 _ ha).1,rfl,fun H3 h4 => h3 H3 (ha.trans h4)⟩
  | call U =>
   obtain ⟨k1,k2,k3⟩:=hy
   have ha:=k2.agree hc
   exact ⟨_,⟨k1,k2,k3⟩,h1,(h3 _ ha).1,rfl,fun H3 h4 => h3 H3 (ha.trans h4)⟩
  | quick =>
   obtain ⟨k1,k2,b,k3,k4,rfl,k5⟩:=hy
   have ha : Agree T H1 (H1.set ny b):=(Unch.set_free (U:=[]) k4 (fresh_free k3)).agree (by simp [disj])
   exact ⟨_,⟨k1,k2,b,k3,k4,rfl,k5⟩,h1,(h3 _ ha).1,rfl,fun H3 h4 => h3 H3 (ha.trans h4)⟩
 | heavy U =>
  cases ky with
  | skip =>
   obtain ⟨k1,k2,rfl⟩:=hy
   exact ⟨_,⟨k1,k2,rfl⟩,hx⟩
  | quick =>
   obtain ⟨h1,h2,h3⟩:=hx
   obtain ⟨k1,k2,b,k3,k4,rfl,k5⟩:=hy
   have hf:=(does_unch h2 h3).free _ k4
   obtain ⟨k,q1,q2⟩:=indic vx H1 .undef
   obtain ⟨kb,p1,p2⟩:=indic vx (H1.set ny b) .undef
   obtain ⟨r1,r2⟩:=heavy_set (k2:=kb) hf k3 h2 ((h3 k).trans q1) (fun v H' hv => by
    obtain ⟨rfl,rfl⟩:=q2 _ _ _ hv
    exact ⟨k4,p1⟩)
   obtain ⟨v',H',s1,s2⟩:=touch_once r1 kb _ r2
   obtain ⟨rfl,rfl⟩:=p2 _ _ _ s1
   exact ⟨_,⟨k1,k2,b,k3,hf,rfl,k5⟩,h1,r1,s2⟩
  | light T => exact hc.elim
  | call U' => exact hc.elim
  | heavy U' => exact hc.elim
 | quick =>
  cases ky with
  | skip =>
   obtain ⟨k1,k2,rfl⟩:=hy
   exact ⟨_,⟨k1,k2,rfl⟩,hx⟩
  | quick =>
   obtain ⟨h1,h2,b',h3,h4,rfl,h5⟩:=hx
   obtain ⟨k1,k2,b,k3,k4,rfl,k5⟩:=hy
   have hne : nx ≠ ny:=nid_ne h4 (fresh_free h3) k4
   have hf : H[ny]? = some .free:=by rw [List.getElem?_set_ne hne] at k4;exact k4
   exact ⟨_,⟨k1,k2,b,k3,hf,rfl,k5⟩,h1,h2,b',h3,by rw [List.getElem?_set_ne (Ne.symm hne)];exact h4,List.set_comm _ _ hne,h5⟩
  | light T => exact hc.elim
  | call U' => exact hc.elim
  | heavy U' => exact hc.elim
 | call U =>
  cases ky with
  | skip =>
   obtain ⟨k1,k2,rfl⟩:=hy
   exact ⟨_,⟨k1,k2,rfl⟩,hx⟩
  | _ => exact hc.elim
theorem inlOf_spec {q : Nat × Func × List V} (h : inlOf E o F = some q) : ∃ c fo caps,o.op = .call c ∧ c.callee = .value fo ∧ evalV F fo = .func q.1 caps ∧ E.mode q.1 = .inl ∧ E.fn q.1 = some q.2.1 ∧ q.2.2 = c.args.toList.map (evalV F) ++ caps:=by
 unfold inlOf at h
 split at h
 ·rename_i c ho
  split at h
  ·rename_i fo hc
   split at h
   ·rename_i g caps hf
    split at h
    ·rename_i fn hm hg
     cases h
     exact ⟨c,fo,caps,ho,hc,hf,hm,hg,rfl⟩
    ·cases h
   ·cases h
  ·cases h
 ·cases h
theorem inlOf_opK {q : Nat × Func × List V} (h : inlOf E o F = some q) (k : V → Hp → R) : opK E call inl cuts ops o nid F H k = inl q.1 q.2.1 (padF q.2.1.ntmps q.2.2) H fun v H _ => k v H:=by
 obtain ⟨c,fo,caps,ho,hc,hf,hm,hg,ha⟩:=inlOf_spec h
 simp only [opK,ho,hc,hf,callK,hm,hg,ha]
def Chain (E : Env) (call : Nat → List FV → Option FV) (inl : Inl) (cuts : List Nat) (ops : Array Oper) (base : Nat) : List Ent → Fr → Hp → (Fr → Hp → Prop) → Prop
 | [],F,H,N => N F H
 | e :: l,F,H,N => ∃ o v H',ops[e.i]? = some o ∧ StepV E call inl cuts ops (nidAt E cuts ops ops.toList e.i base) e.kd o F H v H' ∧ Chain E call inl cuts ops base l (putV F o.dst v) H' N
def Free (ops : Array Oper) (x y : Ent) : Prop:=kcomm x.kd y.kd ∧ ∀ ox oy,ops[x.i]? = some ox → ops[y.i]? = some oy → Apart ops ox oy
def Comm (ops : Array Oper) (x y : Ent) : Prop:=x.i ∈ y.anc ∨ Free ops x y
theorem Chain.swap {base : Nat} {x y : Ent} {l : List Ent} {N : Fr → Hp → Prop} (hf : Free ops x y) (h : Chain E call inl cuts ops base (x :: y :: l) F H N) : Chain E call inl cuts ops base (y :: x :: l) F H N:=by
 obtain ⟨ox,vx,H1,h1,h2,oy,vy,H2,h3,h4,h5⟩:=h
 have ap:=hf.2 _ _ h1 h3
 obtain ⟨H1',h6,h7⟩:=swapV hf.1 h2 (h4.put ap.l)
 refine ⟨oy,vy,H1',h3,h6,ox,vx,H2,h1,h7.put' ap.r,?_⟩
 rw [put_comm ap.ne] at h5
 exact h5
theorem Chain.front {base : Nat} {y : Ent} {l2 : List Ent} {N : Fr → Hp → Prop} : ∀ (l1 : List Ent) {F : Fr} {H : Hp},(∀ x ∈ l1,Free ops x y) → Chain E call inl cuts ops base (l1 ++ y :: l2) F H N → Chain E call inl cuts ops base (y :: (l1 ++ l2)) F H N
 | [],F,H,hf,h => h
 | x :: l1,F,H,hf,h => by
  obtain ⟨ox,vx,H1,h1,h2,h3⟩:=h
  exact Chain.swap (hf x (by simp)) ⟨ox,vx,H1,h1,h2,Chain.front l1 (fun z hz => hf z (by simp [hz])) h3⟩
def OrdOk (ops : Array Oper) : List (Nat × List Nat) → List (Nat × List Nat) → Prop
 | _,[] => True
 | done,(i,anc) :: rest => (∃ o,ops[i]? = some o ∧ (∀ p ∈ done,p.1 ≠ i) ∧ (∀ q ∈ preds o,∃ p ∈ done,p.1 = q) ∧ (∀ a ∈ anc,a ∈ preds o ∨ ∃ p ∈ done,p.1 ∈ preds o ∧ a ∈ p.2) ∧
   ∀ p ∈ done,p.1 ∈ anc ∨ ∃ x,ops[p.1]? = some x ∧ Apart ops x o) ∧ OrdOk ops ((i,anc) :: done) rest
theorem okGo_spec : ∀ (rest done : List (Nat × List Nat)),okGo ops done rest = true → OrdOk ops done rest
 | [],done,h => True.intro
 | (i,anc) :: rest,done,h => by
  simp only [okGo,Bool.and_eq_true] at h
  refine ⟨?_,okGo_spec rest _ h.2⟩
  have h1:=h.1
  split at h1
  ·cases h1
  ·rename_i o ho
   simp only [Bool.and_eq_true,Bool.not_eq_true',List.any_eq_false,List.all_eq_true,Bool.or_eq_true,List.any_eq_true,List.contains_iff_mem,Nat.beq_eq_true_eq] at h1
   obtain ⟨⟨⟨h2,h3⟩,h4⟩,h5⟩:=h1
   refine ⟨o,ho,fun p hp e => h2 p hp (by rw [e];simp),fun q hq => ?_,fun a ha => ?_,fun p hp => ?_⟩
   ·obtain ⟨p,hp,hq⟩:=h3 q hq
    exact ⟨p,hp,by simpa using hq⟩
   ·rcases h4 a ha with h6 | ⟨p,hp,h7⟩
    ·exact .inl h6
    ·exact .inr ⟨p,hp,h7.1,h7.2⟩
   ·rcases h5 p hp with h6 | h6
    ·exact .inl h6
    ·split at h6
     ·rename_i x hx
      exact .inr ⟨x,hx,apartB_spec h6⟩
     ·cases h6
def Aheads (rec : List (Nat × List Tok)) (hv : List Nat) (L : List Ent) : Prop:=∀ e ∈ L,match e.kd with
 | .skip => True
 | .light _ => ∀ j ∈ hv,j ∈ e.anc
 | .heavy U => (∀ j ∈ hv,j ∈ e.anc) ∧ ∀ p ∈ rec,p.1 ∈ e.anc ∨ disj U p.2 = true
 | .call U => (∀ j ∈ hv,j ∈ e.anc) ∧ ∀ p ∈ rec,p.1 ∈ e.anc ∨ disj U p.2 = true
 | .quick => ∀ p ∈ rec,p.1 ∈ e.anc ∨ p.2.any (tokEq star) = false
theorem of_opsDK (hio : InlOk inl) {base : Nat} {k : Fr → Hp → R} : ∀ (rest : List (Nat × List Nat)) (done : List (Nat × List Nat)) (rec : List (Nat × List Tok)) (hv : List Nat) (F : Fr) (H : Hp),
  opsDK E call inl cuts ops base rest rec hv F H k = some res → OrdOk ops done rest →
  ∃ L : List Ent,(L.map fun e => (e.i,e.anc)) = rest ∧ Chain E call inl cuts ops base L F H (fun F H => k F (close base H) = some res) ∧ L.Pairwise (Comm ops) ∧
   (∀ e ∈ L,∀ p ∈ done,p.1 ∈ e.anc ∨ ∃ x o,ops[p.1]? = some x ∧ ops[e.i]? = some o ∧ Apart ops x o) ∧ Aheads rec hv L
 | [],done,rec,hv,F,H,h,ho => ⟨[],rfl,h,.nil,by simp,fun e he => by cases he⟩
 | (i,anc) :: rest,done,rec,hv,F,H,h,ho => by
  simp only [opsDK] at h
  split at h
  ·cases h
  ·rename_i o hi
   obtain ⟨⟨o',ho',hd1,hd2,hd3,hd4⟩,hrest⟩:=ho
   rw [hi] at ho'
   cases ho'
   have apart0 : ∀ p ∈ done,p.1 ∈ anc ∨ ∃ x o,ops[p.1]? = some x ∧ ops[i]? = some o ∧ Apart ops x o:=fun p hp => (hd4 p hp).imp_right fun ⟨x,h1,h2⟩ => ⟨x,o,h1,hi,h2⟩
   have glue : ∀ (kd : Kd) (v : V) (H' : Hp) (rec' : List (Nat × List Tok)) (hv' : List Nat),StepV E call inl cuts ops (nidAt E cuts ops ops.toList i base) kd o F H v H' →
     opsDK E call inl cuts ops base rest rec' hv' (putV F o.dst v) H' k = some res → (∀ p ∈ rec,p ∈ rec') → (∀ j ∈ hv,j ∈ hv') → Aheads rec hv [⟨i,anc,kd⟩] →
     (match kd with | .skip => True | .light T => (i,T) ∈ rec' | .heavy _ => i ∈ hv' | .quick => i ∈ hv' | .call _ => i ∈ hv' ∧ (i,[star]) ∈ rec') →
     ∃ L : List Ent,(L.map fun e => (e.i,e.anc)) = (i,anc) :: rest ∧ Chain E call inl cuts ops base L F H (fun F H => k F (close base H) = some res) ∧ L.Pairwise (Comm ops) ∧
      (∀ e ∈ L,∀ p ∈ done,p.1 ∈ e.anc ∨ ∃ x o,ops[p.1]? = some x ∧ ops[e.i]? = some o ∧ Apart ops x o) ∧ Aheads rec hv L:=by
    intro kd v H' rec' hv' hst hrun hr1 hh1 ha hin
    obtain ⟨L,e1,e2,e3,e4,e5⟩:=of_opsDK hio rest ((i,anc) :: done) rec' hv' _ _ hrun hrest
    refine ⟨⟨i,anc,kd⟩ :: L,by simp [e1],⟨o,v,H',hi,hst,e2⟩,List.pairwise_cons.2 ⟨fun e he => ?_,e3⟩,?_,?_⟩
    ·rcases e4 e he (i,anc) (by simp) with h1 | ⟨x,oy,h1,h2,h3⟩
     ·exact .inl h1
     ·have fr : kcomm kd e.kd → Comm ops ⟨i,anc,kd⟩ e:=fun hc => .inr ⟨hc,fun ox oy' h4 h5 => by
       rw [h1] at h4;rw [h2] at h5;cases h4;cases h5;exact h3⟩
      have he5:=e5 e he
      cases hk : e.kd with
      | skip => exact fr (by rw [hk];cases kd <;> exact True.intro)
      | quick =>
       rw [hk] at he5
       cases kd with
       | call U =>
        rcases he5 (i,[star]) hin.2 with h4 | h4
        ·exact .inl h4
        ·exact absurd h4 (by show ¬ ([star].any (tokEq star) = false);decide)
       | _ => exact fr (by rw [hk];exact True.intro)
      | light T =>
       rw [hk] at he5
       cases kd with
       | skip => exact fr (by exact True.intro)
       | light T' => exact fr (by rw [hk];exact True.intro)
       | heavy U => exact .inl (he5 i hin)
       | quick => exact .inl (he5 i hin)
       | call U => exact .inl (he5 i hin.1)
      | heavy U =>
       rw [hk] at he5
       cases kd with
       | skip => exact fr (by exact True.intro)
       | light T' =>
        rcases he5.2 (i,T') hin with h4 | h4
        ·exact .inl h4
        ·exact fr (by rw [hk];exact h4)
       | heavy U' => exact .inl (he5.1 i hin)
       | quick => exact .inl (he5.1 i hin)
       | call U' => exact .inl (he5.1 i hin.1)
      | call U =>
       rw [hk] at he5
       cases kd with
       | skip => exact fr (by exact True.intro)
       | light T' =>
        rcases he5.2 (i,T') hin with h4 | h4
        ·exact .inl h4
        ·exact fr (by rw [hk];exact h4)
       | heavy U' => exact .inl (he5.1 i hin)
       | quick => exact .inl (he5.1 i hin)
       | call U' => exact .inl (he5.1 i hin.1)
    ·intro e he p hp
     rcases List.mem_cons.1 he with rfl | he
     ·exact apart0 p hp
     ·exact e4 e he p (by simp [hp])
    ·intro e he
     rcases List.mem_cons.1 he with rfl | he
     ·exact ha _ (by simp)
     ·have he5:=e5 e he
      cases hk : e.kd with
      | skip => exact True.intro
      | light T => rw [hk] at he5;exact fun j hj => he5 j (hh1 j hj)
      | heavy U => rw [hk] at he5;exact ⟨fun j hj => he5.1 j (hh1 j hj),fun p hp => he5.2 p (hr1 p hp)⟩
      | call U => rw [hk] at he5;exact ⟨fun j hj => he5.1 j (hh1 j hj),fun p hp => he5.2 p (hr1 p hp)⟩
      | quick => rw [hk] at he5;exact fun p hp => he5 p (hr1 p hp)
   have lone : ∀ {kd : Kd},(match kd with
     | .skip => True
     | .light _ => ∀ j ∈ hv,j ∈ anc
     | .heavy U => (∀ j ∈ hv,j ∈ anc) ∧ ∀ p ∈ rec,p.1 ∈ anc ∨ disj U p.2 = true
     | .call U => (∀ j ∈ hv,j ∈ anc) ∧ ∀ p ∈ rec,p.1 ∈ anc ∨ disj U p.2 = true
     | .quick => ∀ p ∈ rec,p.1 ∈ anc ∨ p.2.any (tokEq star) = false) → Aheads rec hv [⟨i,anc,kd⟩]:=fun hx e he => by
    rw [List.mem_singleton] at he
    subst he
    exact hx
   rcases guardK_some h with ⟨hg,h⟩ | ⟨hg,h⟩
   ·split at h
    ·rename_i T hT
     obtain ⟨hb,h⟩:=gB_some h
     have hb' : ∀ j ∈ hv,j ∈ anc:=fun j hj => by simpa using List.all_eq_true.1 hb j hj
     obtain ⟨v,h1,h2⟩:=light hT h
     exact glue (.light T) v H _ hv ⟨hg,hT,rfl,h2⟩ h1 (fun p hp => by simp [hp]) (fun j hj => hj) (lone hb') (by simp)
    ·rename_i hT
     split at h
     ·rename_i q hq
      obtain ⟨hb,h⟩:=gB_some h
      have hb' : ∀ j ∈ hv,j ∈ anc:=fun j hj => by simpa using List.all_eq_true.1 hb j hj
      obtain ⟨v,H',U,h1,h2,h3⟩:=hio _ _ _ _ _ _ h
      obtain ⟨hb2,h1⟩:=gB_some h1
      refine glue (.call U) v H' _ _ ⟨hg,h2,fun k2 => ?_⟩ h1 (fun p hp => by simp [hp]) (fun j hj => by simp [hj]) (lone ⟨hb',fun p hp => ?_⟩) (by simp)
      ·rw [inlOf_opK hq]
       exact h3 _
      ·have:=List.all_eq_true.1 hb2 p hp
       simp only [Bool.or_eq_true,List.contains_iff_mem] at this
       exact this
     ·rename_i hni
      obtain ⟨hb,h⟩:=gB_some h
      by_cases hq : (quick ops o F && noStar anc rec) = true
      ·rw [Bool.and_eq_true] at hq
       obtain ⟨v,b,h1,h2,h3,h4⟩:=quick_does hq.1 h
       refine glue .quick v _ rec _ ⟨hg,hq.1,b,h1,h2,rfl,h4⟩ h3 (fun p hp => hp) (fun j hj => by simp [hj]) (lone fun p hp => ?_) (by simp)
       have:=List.all_eq_true.1 hq.2 p hp
       simpa only [Bool.or_eq_true,List.contains_iff_mem,Bool.not_eq_true'] using this
      ·simp only [Bool.not_eq_true] at hq
       simp only [hq,Bool.false_or,Bool.and_eq_true] at hb
       have hb' : ∀ j ∈ hv,j ∈ anc:=fun j hj => by simpa using List.all_eq_true.1 hb.1 j hj
       have hb2:=hb.2
       unfold VM.free at hb2
       split at hb2
       ·cases hb2
       ·rename_i U hU
        obtain ⟨v,H',h1,h2⟩:=touch_once hU _ _ h
        refine glue (.heavy U) v H' rec _ ⟨hg,hU,h2⟩ h1 (fun p hp => hp) (fun j hj => by simp [hj]) (lone ⟨hb',fun p hp => ?_⟩) (by simp)
        have:=List.all_eq_true.1 hb2 p hp
        simp only [Bool.or_eq_true,List.contains_iff_mem] at this
        exact this
   ·exact glue .skip _ H rec hv ⟨hg,rfl,rfl⟩ h (fun p hp => hp) (fun j hj => hj) (lone True.intro) True.intro
end
end Go.Proofs.YtpffkpaiihcffaaGreatDoor.VM
