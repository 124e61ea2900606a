/- Code: the abstract machine's evaluation stands for the model's run. -/
import Derived.Test.YtpffkpaiihcffaaGreatDoorReg
import Derived.Scope
import Derived.LoopN
set_option linter.unusedVariables false
set_option linter.unusedSimpArgs false
set_option linter.unusedSectionVars false
namespace Go.Proofs.YtpffkpaiihcffaaGreatDoor.VM
open Go Go.RowKit
def NormSpec : Prop:=∀ (L : List (Fr × Act)) (B0 : Nat) (G T : Nat → Prop) (w0 : World) (an : Ann) (F F' : Fr) (H H' : Hp) (a : Act) (w : World) (A : Nat → Prop) (β : LocOf),(∀ q ∈ L,q.1.all (belowV 4 an.m) = true) → normal an F H = some (F',H') → St L B0 G T w0 F H a w A β → ∃ A' β',St L B0 G T w0 F' H' a w A' β'
def DrawSpec (P : Program) (E : Env) : Prop:=∀ (call : Nat → List FV → Option FV) (inl : Inl) (L : List (Fr × Act)) (B0 : Nat) (G T : Nat → Prop) (w0 : World) (res : FV) (Q : Exit → Act → World → Prop) (cuts : List Nat) (ops : Array Oper) (ord : List (Nat × List Nat)) (id : Nat) (k : Fr → Hp → R) (F : Fr) (H : Hp) (a : Act) (w : World) (A : Nat → Prop) (β : LocOf),
 CallSpec P E call → InlSpec P E inl → After L B0 G T w0 res k (Q .normal) → okOrd ops ord = true → opsDK E call inl cuts ops H.length ord [] [] F (H ++ frees (total E cuts ops)) k = some res → St L B0 G T w0 F H a w A β → (Code.region id ops true).wp P Q a w
def LoopAt (P : Program) (c : Code) (Q : Exit → Act → World → Prop) (a : Act) (w : World) : Prop :=
 ∀ (b : Frame) (k : List Item) (cs : List Frame),∃ e a' w',Q e a' w' ∧ Arrives P (lone (b.at a (.code c :: .inLoop c :: k)) cs w) b k cs e a' w'
theorem loopAt_wp {P : Program} {c : Code} {Q : Exit → Act → World → Prop} {a : Act} {w : World} (h : LoopAt P c Q a w) : (Code.loop c).wp P Q a w :=
 fun b k cs => let ⟨e,a',w',q,r⟩:=h b k cs;⟨e,a',w',q,.of_steps (.one step_loop) r⟩
theorem loopAt_of {P : Program} {c : Code} {Q : Exit → Act → World → Prop} {a : Act} {w : World} (h : c.wp P (Exit.then (LoopAt P c Q) Q) a w) : LoopAt P c Q a w:=by
 intro b k cs
 obtain ⟨e,a₁,w₁,hq,harr⟩:=h b (.inLoop c :: k) cs
 cases e with
 | normal =>
  obtain ⟨e₂,a₂,w₂,hq₂,harr₂⟩:=hq b k cs
  exact ⟨e₂,a₂,w₂,hq₂,.of_steps (Steps.trans harr (.one step_inLoop)) harr₂⟩
 | exit id => exact ⟨_,a₁,w₁,hq,.pass (x:=.inLoop c) rfl (fun _ _ => .inl (by simp)) harr⟩
 | goto l => exact ⟨_,a₁,w₁,hq,.pass (x:=.inLoop c) rfl (fun _ _ => .inl (by simp)) harr⟩
 | ret => exact ⟨_,a₁,w₁,hq,.pass (x:=.inLoop c) rfl (fun _ _ => .inl (by simp)) harr⟩
 | panic ch => exact ⟨_,a₁,w₁,hq,.pass (x:=.inLoop c) rfl (fun _ _ => .inl (by simp)) harr⟩
 | outgrown => exact ⟨_,a₁,w₁,hq,.pass (x:=.inLoop c) rfl (fun _ _ => .inl (by simp)) harr⟩
def contAt (P : Program) : Code → List Nat → (Exit → Act → World → Prop) → Act → World → Prop
 | .region _ _ _,[],Q => Q .normal
 | .seq _ b,[],Q => b.wp P Q
 | .block _ _,[],Q => Q .normal
 | .loop c,[],Q => LoopAt P c Q
 | .seq a b,0 :: p,Q => contAt P a p (Exit.then (b.wp P Q) Q)
 | .seq _ b,1 :: p,Q => contAt P b p Q
 | .cond _ a _,2 :: p,Q => contAt P a p Q
 | .cond _ _ b,3 :: p,Q => contAt P b p Q
 | .block id c,4 :: p,Q => contAt P c p (Exit.inBlock id Q)
 | .loop c,5 :: p,Q => contAt P c p (Exit.then (LoopAt P c Q) Q)
 | .scope c,6 :: p,Q => contAt P c p (Exit.noGoto Q)
 | _,_,_ => fun _ _ => True
section
variable {P : Program} {E : Env} {L : List (Fr × Act)} {B0 : Nat} {G T : Nat → Prop} {w0 : World} {res : FV} {call : Nat → List FV → Option FV} {inl : Inl} {g : Nat} {J : List Nat → Fr → Hp → R}
structure CtxOk (L : List (Fr × Act)) (B0 : Nat) (G T : Nat → Prop) (w0 : World) (res : FV) (K : Kont) (Q : Exit → Act → World → Prop) : Prop where
 norm : After L B0 G T w0 res K.norm (Q .normal)
 exits : ∀ id k,findExit id K.exits = some k → After L B0 G T w0 res k (Q (.exit id))
 ret : After L B0 G T w0 res K.ret (Q .ret)
def JOk (P : Program) (L : List (Fr × Act)) (B0 : Nat) (G T : Nat → Prop) (w0 : World) (res : FV) (J : List Nat → Fr → Hp → R) (c : Code) (h : List Nat) (Q : Exit → Act → World → Prop) : Prop :=
 ∀ p,After L B0 G T w0 res (J (p.reverse ++ h)) (contAt P c p Q)
theorem JOk.here {c : Code} {h : List Nat} {Q : Exit → Act → World → Prop} (j : JOk P L B0 G T w0 res J c h Q) : After L B0 G T w0 res (J h) (contAt P c [] Q):=by simpa using j []
theorem JOk.sub {c c' : Code} {h : List Nat} {i : Nat} {Q Q' : Exit → Act → World → Prop} (j : JOk P L B0 G T w0 res J c h Q) (e : ∀ p,contAt P c (i :: p) Q = contAt P c' p Q') : JOk P L B0 G T w0 res J c' (i :: h) Q':=by
 intro p
 have:=j (i :: p)
 rw [e] at this
 simpa using this
variable (hL : (∀ p an,annE E g p = some an → ∀ q ∈ L,q.1.all (belowV 4 an.m) = true) ∨ ∀ p F H,J p F H = none) (ok : EnvOk P E) (ns : NormSpec) (ds : DrawSpec P E) (spec : CallSpec P E call) (ispec : InlSpec P E inl)
include ns
theorem join_after {an : Option Ann} {Jp k : Fr → Hp → R} {N : Act → World → Prop} (hL : (∀ an',an = some an' → ∀ q ∈ L,q.1.all (belowV 4 an'.m) = true) ∨ ∀ F H,Jp F H = none) (hJ : After L B0 G T w0 res Jp N) (hk : an = none → After L B0 G T w0 res k N) : After L B0 G T w0 res (join an Jp k) N:=by
 intro F H a w A β h st
 unfold join at h
 split at h
 ·exact hk rfl _ _ _ _ _ _ h st
 ·rename_i an
  split at h
  ·rename_i F' H' hn
   rcases hL with hL | hL
   ·obtain ⟨A',β',st'⟩:=ns _ _ _ _ _ _ _ _ _ _ _ _ _ _ (hL _ rfl) hn st
    exact hJ _ _ _ _ _ _ h st'
   ·rw [hL] at h;cases h
  ·cases h
include hL ok ds spec ispec
theorem execK_sound : ∀ (c : Code) (h : List Nat) (F : Fr) (H : Hp) (K : Kont) (Q : Exit → Act → World → Prop) (a : Act) (w : World) (A : Nat → Prop) (β : LocOf),CtxOk L B0 G T w0 res K Q → JOk P L B0 G T w0 res J c h Q →
  execK E call inl g J c h F H K = some res → St L B0 G T w0 F H a w A β → c.wp P Q a w:=by
 intro c
 induction c with
 | skip => intro h F H K Q a w A β hc hj he st;simp only [execK] at he;exact wp_skip (hc.norm _ _ _ _ _ _ he st)
 | label l => intro h F H K Q a w A β hc hj he st;simp only [execK] at he;exact wp_label (hc.norm _ _ _ _ _ _ he st)
 | region id ops draw =>
  intro h F H K Q a w A β hc hj he st
  simp only [execK] at he
  have haft : After L B0 G T w0 res (join (annE E g h) (J h) K.norm) (Q .normal):=join_after ns (hL.imp (fun q => q _) fun q => q _) hj.here fun _ => hc.norm
  cases draw with
  | false => exact wp_region (opsK_sound ok spec ispec _ haft _ _ _ _ _ _ _ he st)
  | true =>
   simp only at he
   obtain ⟨ho,he⟩:=gB_some he
   exact ds _ _ _ _ _ _ _ _ _ _ _ _ _ _ _ _ _ _ _ _ spec ispec haft ho he st
 | seq x y ihx ihy =>
  intro h F H K Q a w A β hc hj he st
  simp only [execK] at he
  refine wp_seq (ihx (0 :: h) F H ⟨join (annE E g h) (J h) fun F H => execK E call inl g J y (1 :: h) F H K,K.exits,K.ret⟩ _ a w A β ⟨?_,hc.exits,hc.ret⟩ (hj.sub fun p => rfl) he st)
  refine join_after ns (hL.imp (fun q => q _) fun q => q _) hj.here fun _ => ?_
  intro F' H' a' w' A' β' he' st'
  exact ihy (1 :: h) F' H' K Q a' w' A' β' hc (hj.sub fun p => rfl) he' st'
 | cond c x y ihx ihy =>
  intro h F H K Q a w A β hc hj he st
  simp only [execK] at he
  generalize hv : evalV F c = v at he
  cases v with
  | f z =>
   simp only [condV] at he
   have hz:=(hv ▸ st.ev c).f'.1
   rcases fCond_some he with ⟨rfl,he⟩ | ⟨rfl,he⟩
   ·exact wp_cond (FR_bool hz) (ihx (2 :: h) F H K Q a w A β hc (hj.sub fun p => rfl) he st)
   ·exact wp_cond (FR_bool hz) (ihy (3 :: h) F H K Q a w A β hc (hj.sub fun p => rfl) he st)
  | _ => simp [condV] at he
 | block id c ih =>
  intro h F H K Q a w A β hc hj he st
  simp only [execK] at he
  have haft : After L B0 G T w0 res (join (annE E g h) (J h) K.norm) (Q .normal):=join_after ns (hL.imp (fun q => q _) fun q => q _) hj.here fun _ => hc.norm
  refine wp_block (ih (4 :: h) F H ⟨join (annE E g h) (J h) K.norm,(id,join (annE E g h) (J h) K.norm) :: K.exits,K.ret⟩ _ a w A β ⟨haft,?_,hc.ret⟩ (hj.sub fun p => rfl) he st)
  intro i k hi
  simp only [findExit] at hi
  split at hi
  ·rename_i e
   cases hi
   subst e
   intro F' H' a' w' A' β' he' st'
   simp only [Exit.inBlock,if_true]
   exact haft _ _ _ _ _ _ he' st'
  ·rename_i e
   intro F' H' a' w' A' β' he' st'
   simp only [Exit.inBlock]
   rw [if_neg (fun q => e q.symm)]
   exact hc.exits i k hi _ _ _ _ _ _ he' st'
 | loop c ih =>
  intro h F H K Q a w A β hc hj he st
  simp only [execK] at he
  exact loopAt_wp (join_after ns (N:=LoopAt P c Q) (k:=fun _ _ => none) (hL.imp (fun q => q _) fun q => q _) hj.here (fun _ F H a w A β he st => by cases he) _ _ _ _ _ _ he st)
 | scope c ih =>
  intro h F H K Q a w A β hc hj he st
  simp only [execK] at he
  exact wp_scope_straight (ih (6 :: h) F H K _ a w A β ⟨hc.norm,hc.exits,hc.ret⟩ (hj.sub fun p => rfl) he st)
 | exit id =>
  intro h F H K Q a w A β hc hj he st
  simp only [execK] at he
  split at he
  ·rename_i k hk;exact wp_exit (hc.exits id k hk _ _ _ _ _ _ he st)
  ·cases he
 | ret => intro h F H K Q a w A β hc hj he st;simp only [execK] at he;exact wp_ret (hc.ret _ _ _ _ _ _ he st)
 | _ => intro h F H K Q a w A β hc hj he st;simp only [execK] at he;cases he
theorem segK_sound : ∀ (c : Code) (h p : List Nat) (F : Fr) (H : Hp) (K : Kont) (Q : Exit → Act → World → Prop) (a : Act) (w : World) (A : Nat → Prop) (β : LocOf),CtxOk L B0 G T w0 res K Q → JOk P L B0 G T w0 res J c h Q →
  segK E call inl g J c h p F H K = some res → St L B0 G T w0 F H a w A β → contAt P c p Q a w:=by
 intro c
 induction c with
 | region id ops draw =>
  intro h p F H K Q a w A β hc hj he st
  cases p with
  | nil => simp only [segK] at he;exact hc.norm _ _ _ _ _ _ he st
  | cons i p => simp [segK] at he
 | seq x y ihx ihy =>
  intro h p F H K Q a w A β hc hj he st
  match p with
  | [] => simp only [segK] at he;exact execK_sound hL ok ns ds spec ispec y (1 :: h) F H K Q a w A β hc (hj.sub fun p => rfl) he st
  | 0 :: p =>
   simp only [segK] at he
   refine ihx (0 :: h) p F H ⟨join (annE E g h) (J h) fun F H => execK E call inl g J y (1 :: h) F H K,K.exits,K.ret⟩ _ a w A β ⟨?_,hc.exits,hc.ret⟩ (hj.sub fun p => rfl) he st
   refine join_after ns (hL.imp (fun q => q _) fun q => q _) hj.here fun _ => ?_
   intro F' H' a' w' A' β' he' st'
   exact execK_sound hL ok ns ds spec ispec y (1 :: h) F' H' K Q a' w' A' β' hc (hj.sub fun p => rfl) he' st'
  | 1 :: p => simp only [segK] at he;exact ihy (1 :: h) p F H K Q a w A β hc (hj.sub fun p => rfl) he st
  | (i + 2) :: p => simp [segK] at he
 | cond c x y ihx ihy =>
  intro h p F H K Q a w A β hc hj he st
  match p with
  | [] => simp [segK] at he
  | 2 :: p => simp only [segK] at he;exact ihx (2 :: h) p F H K Q a w A β hc (hj.sub fun p => rfl) he st
  | 3 :: p => simp only [segK] at he;exact ihy (3 :: h) p F H K Q a w A β hc (hj.sub fun p => rfl) he st
  | 0 :: p => simp [segK] at he
  | 1 :: p => simp [segK] at he
  | (i + 4) :: p => simp [segK] at he
 | block id c ih =>
  intro h p F H K Q a w A β hc hj he st
  match p with
  | [] => simp only [segK] at he;exact hc.norm _ _ _ _ _ _ he st
  | 4 :: p =>
   simp only [segK] at he
   have haft : After L B0 G T w0 res (join (annE E g h) (J h) K.norm) (Q .normal):=join_after ns (hL.imp (fun q => q _) fun q => q _) hj.here fun _ => hc.norm
   refine ih (4 :: h) p F H ⟨join (annE E g h) (J h) K.norm,(id,join (annE E g h) (J h) K.norm) :: K.exits,K.ret⟩ _ a w A β ⟨haft,?_,hc.ret⟩ (hj.sub fun p => rfl) he st
   intro i k hi
   simp only [findExit] at hi
   split at hi
   ·rename_i e
    cases hi
    subst e
    intro F' H' a' w' A' β' he' st'
    simp only [Exit.inBlock,if_true]
    exact haft _ _ _ _ _ _ he' st'
   ·rename_i e
    intro F' H' a' w' A' β' he' st'
    simp only [Exit.inBlock]
    rw [if_neg (fun q => e q.symm)]
    exact hc.exits i k hi _ _ _ _ _ _ he' st'
  | 0 :: p => simp [segK] at he
  | 1 :: p => simp [segK] at he
  | 2 :: p => simp [segK] at he
  | 3 :: p => simp [segK] at he
  | (i + 5) :: p => simp [segK] at he
 | loop c ih =>
  intro h p F H K Q a w A β hc hj he st
  have haft : After L B0 G T w0 res (join (annE E g h) (J h) fun _ _ => none) (LoopAt P c Q):=join_after ns (hL.imp (fun q => q _) fun q => q _) hj.here (fun _ F H a w A β he st => by cases he)
  match p with
  | [] => simp only [segK] at he;exact loopAt_of (execK_sound hL ok ns ds spec ispec c (5 :: h) F H ⟨join (annE E g h) (J h) fun _ _ => none,K.exits,K.ret⟩ _ a w A β ⟨haft,hc.exits,hc.ret⟩ (hj.sub fun p => rfl) he st)
  | 5 :: p => simp only [segK] at he;exact ih (5 :: h) p F H ⟨join (annE E g h) (J h) fun _ _ => none,K.exits,K.ret⟩ _ a w A β ⟨haft,hc.exits,hc.ret⟩ (hj.sub fun p => rfl) he st
  | 0 :: p => simp [segK] at he
  | 1 :: p => simp [segK] at he
  | 2 :: p => simp [segK] at he
  | 3 :: p => simp [segK] at he
  | 4 :: p => simp [segK] at he
  | (i + 6) :: p => simp [segK] at he
 | scope c ih =>
  intro h p F H K Q a w A β hc hj he st
  match p with
  | [] => simp [segK] at he
  | 6 :: p => simp only [segK] at he;exact ih (6 :: h) p F H K _ a w A β ⟨hc.norm,hc.exits,hc.ret⟩ (hj.sub fun p => rfl) he st
  | 0 :: p => simp [segK] at he
  | 1 :: p => simp [segK] at he
  | 2 :: p => simp [segK] at he
  | 3 :: p => simp [segK] at he
  | 4 :: p => simp [segK] at he
  | 5 :: p => simp [segK] at he
  | (i + 7) :: p => simp [segK] at he
 | _ => intro h p F H K Q a w A β hc hj he st;simp [segK] at he
end
end Go.Proofs.YtpffkpaiihcffaaGreatDoor.VM
