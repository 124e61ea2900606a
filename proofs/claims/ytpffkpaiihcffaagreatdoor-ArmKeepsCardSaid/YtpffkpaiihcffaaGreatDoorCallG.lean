/- Calls of the program's functions, continued: bodies. -/
import Derived.Test.YtpffkpaiihcffaaGreatDoorInlT
set_option linter.unusedVariables false
set_option linter.unusedSimpArgs false
set_option linter.unusedSectionVars false
namespace Go.Proofs.YtpffkpaiihcffaaGreatDoor.VM
open Go Go.RowKit
structure OvSpec (P : Program) (E : Env) : Prop where
 plain : ∀ g f,E.ov g = some f → ∀ xs y own lend fn,E.mode g = .call own lend → E.fn g = some fn → f xs = some y → ∀ (cs : List Value) (w : World) (A : Nat → Prop),(∀ b,A b → b < w.heap.size) → ArgsR E w A (pars E fn) xs cs →
  Calls P g cs.toArray w fun e w' => ∃ v,e = .returned v ∧ Ret E own fn w A y v w'
 none : ∀ g f,E.ov g = some f → ∀ ls own,E.mode g ≠ .move ls own
section
variable {P : Program} {E : Env} {res : FV} {call : Nat → List FV → Option FV}
theorem inlK_sound (ok : EnvOk P E) (ns : NormSpec) (ds : DrawSpec P E) (spec : CallSpec P E call) : ∀ d,InlSpec P E (inlK E call d)
 | 0 => ⟨inlK_ok 0,fun g fn F H k res L B0 G T w0 a w A β hm hg h st => by simp [inlK] at h⟩
 | d + 1 => ⟨inlK_ok (d + 1),fun g fn F H k res L B0 G T w0 a w A β hm hg h st => by
  cases hc : fn.body with
  | some c =>
   refine ⟨c,rfl,?_⟩
   have h:=inlK_execK hc h
   have haft : ∀ {N : Act → World → Prop},(∀ a w,(a.defers = [] ∧ ∃ v,(results fn a.tmps).run P w = .ok v w ∧ InlPost L B0 G T w0 k res (.returned v) w) → N a w) →
     After L B0 G T w0 res (fun F H => resV E F H fn.results.toList [] fun vs => k (packV vs) H) N:=by
    intro N hN F' H' a' w' A' β' he st'
    refine hN a' w' ⟨st'.fr.defers,?_⟩
    obtain ⟨vs,us,h1,h2,h3,h4⟩:=resV_rel ok st' _ _ _ he
    simp only [List.reverse_nil,List.nil_append] at h1
    exact ⟨packVal us,results_run h4,packV vs,packVal us,H',A',β',rfl,h1,pack_rel h2 h3,st'.hp,st'.below,st'.fr.sus,st'.fr.gl⟩
   exact execK_sound (.inr fun _ _ _ => rfl) ok ns ds spec (inlK_sound ok ns ds spec d) c [] F H _ (bodyPost P fn (InlPost L B0 G T w0 k res)) a w A β ⟨haft fun _ _ h => let ⟨h1,v,h2,h3⟩:=h;⟨h1,v,h2,h3⟩,fun id k hk => by simp [findExit] at hk,haft fun _ _ h => let ⟨h1,v,h2,h3⟩:=h;⟨h1,v,h2,h3⟩⟩
    (fun p F H a w A β he _ => by cases he) h st
  | none => simp [inlK,hc] at h⟩
def waitL (ls : List (Nat × Nat × Bool)) (cs : List Value) : List (Fr × Act):=[((List.range ls.length).map V.ref,{ tmps:=(ls.map fun q => cs.getD q.1 undef).toArray,defers:=[] })]
theorem waitL_below {ls : List (Nat × Nat × Bool)} {cs : List Value} {m : Nat} (h : ls.length ≤ m) : ∀ q ∈ waitL ls cs,q.1.all (belowV 4 m) = true:=by
 intro q hq
 simp only [waitL,List.mem_singleton] at hq
 subst hq
 simp only [List.all_map,List.all_eq_true,List.mem_range]
 intro i hi
 simp only [Function.comp,belowV,decide_eq_true_eq]
 omega
theorem waitL_get {ls : List (Nat × Nat × Bool)} {cs : List Value} {w : World} {A : Nat → Prop} {β : LocOf} {H : Hp} {F : Fr} {a : Act} (hc : ∀ (j : Nat) q,ls[j]? = some q → ∃ c,cs[q.1]? = some c) (h : FRel (waitL ls cs) w A β H F a) : ∀ (j : Nat) q,ls[j]? = some q → ∃ c,cs[q.1]? = some c ∧ VR w A β H (.ref j) c:=by
 intro j q hj
 obtain ⟨c,hc⟩:=hc j q hj
 have hlt : j < ls.length:=(List.getElem?_eq_some_iff.1 hj).1
 have:=h.sus _ (List.mem_singleton.2 rfl) j (.ref j) (by simp [hlt])
 refine ⟨c,hc,?_⟩
 have e : (ls.map fun q => cs.getD q.1 undef).toArray.getD j undef = c:=by
  simp [hj,List.getD_eq_getElem?_getD,hc]
 rw [e] at this
 exact this
theorem jump_sound (ok : EnvOk P E) (ns : NormSpec) (ds : DrawSpec P E) (spec : CallSpec P E call) {g : Nat} {own : List (Nat × Nat × Nat)} {fn : Func} {c : Code} (hg : E.fn g = some fn) (hc : fn.body = some c) {L : List (Fr × Act)} {G T : Nat → Prop} {w0 : World} {Q : Exit → Act → World → Prop}
  (hL : ∀ p an,annE E g p = some an → ∀ q ∈ L,q.1.all (belowV 4 an.m) = true)
  (hctx : CtxOk L w0.heap.size G T w0 res ⟨retK E (lsOf E g) own fn,[],retK E (lsOf E g) own fn⟩ Q) : ∀ m,JOk P L w0.heap.size G T w0 res (jump E call g own m) c [] Q
 | 0 => fun p F H a w A β he _ => by simp [jump] at he
 | m + 1 => fun p F H a w A β he st => by
  simp only [jump,pointK,hg,hc,List.append_nil,List.reverse_reverse] at he
  exact segK_sound (.inl hL) ok ns ds spec (inlK_sound ok ns ds spec 3) c [] p F H _ Q a w A β hctx (jump_sound ok ns ds spec hg hc hL hctx m) he st
theorem annE_m {E : Env} {g : Nat} {p : List Nat} {an : Ann} (h : annE E g p = some an) : (lsOf E g).length ≤ an.m:=by
 unfold annE at h
 split at h
 ·cases h;exact Nat.le_max_left _ _
 ·cases h
theorem moveR_cs {w : World} {A : Nat → Prop} {xs : List FV} {cs : List Value} : ∀ (ls : List (Nat × Nat × Bool)) (gb : List Nat),MoveR w A xs cs ls gb → ∀ (j : Nat) q,ls[j]? = some q → ∃ c,cs[q.1]? = some c
 | [],gb,h => by simp
 | q :: ls,gb,h => by
  obtain ⟨x,c,rows,o1,o2,_,_,m2,_,_,m5⟩:=h
  intro j q' hj
  cases j with
  | zero => cases hj;exact ⟨c,m2⟩
  | succ j => exact moveR_cs ls o2 m5 j q' (by simpa using hj)
theorem body_sound (ok : EnvOk P E) (ns : NormSpec) (ds : DrawSpec P E) (ih : CallSpec P E call) {n g : Nat} {own : List (Nat × Nat × Nat)} {fn : Func} {xs : List FV} {y : FV} (hg : E.fn g = some fn) (h : argsK E (pars E fn) xs [] (fun vs => bodyK E call (jump E call g own n) g own vs) = some y)
  {cs : List Value} {w : World} {A : Nat → Prop} {gb : List Nat} (hA : ∀ b,A b → b < w.heap.size) (hgb : ∀ b ∈ gb,b < w.heap.size ∧ ¬ A b) (hnd : gb.Nodup) (ha : ArgsM E w A (lsOf E g) (pars E fn) xs cs gb) :
  Calls P g cs.toArray w fun e w' => ∃ v,e = .returned v ∧ RetM E (lsOf E g) own fn w A gb cs y v w':=by
 obtain ⟨vs,h1,h2,h3,h4⟩:=argsK_gen _ _ _ h
 obtain ⟨a1,a2,ag,a3,a4⟩:=ha
 simp only [List.reverse_nil,List.nil_append,bodyK,hg] at h1
 split at h1
 ·rename_i c hc
  obtain ⟨hps,h1⟩:=gB_some h1
  have hps':=nodupB_nodup hps
  split at h1
  ·rename_i vs' H0 hent
   obtain ⟨e1,_,_⟩:=ok.fn g fn hg
   refine calls_of_wp e1 hc ?_
   have hp : HRel w.heap.size (fun b => b ∈ gb) A w A (fun _ => .no) []:=by
    refine ⟨by simp,by simp,by simp,hA,fun b hb _ => .inl hb,fun b hb => (hgb b hb).1,Nat.le_refl _,fun b hb => hb⟩
   have st : St [] w.heap.size (fun b => b ∈ gb) A w (padF fn.ntmps (blank ((lsOf E g).map fun q => q.1) vs)) [] { tmps:=cs.toArray ++ Array.replicate (fn.ntmps - cs.toArray.size) undef,defers:=[] } w A (fun _ => .no):=by
    refine ⟨?_,hp,Belowx.refl _ _ _⟩
    have:=pad_rel (L:=[]) (n:=fn.ntmps) (w:=w) (A:=A) (β:=fun _ => .no) (H:=[]) (vs:=blank ((lsOf E g).map fun q => q.1) vs) (us:=cs) (by rw [blank_len,h2,a2]) (fun i v c hv hc => ?_) (by simp) ag
    ·simpa using this
    ·rw [blank_get] at hv
     cases hvi : vs[i]? with
     | none => rw [hvi] at hv;cases hv
     | some v0 =>
      rw [hvi] at hv
      have hv2:=Option.some.inj hv
      cases hcon : ((lsOf E g).map fun q => q.1).contains i with
      | true => rw [hcon] at hv2;simp only at hv2;subst hv2;exact .un _
      | false =>
       rw [hcon] at hv2
       simp only at hv2
       subst hv2
       have hi : i ∉ (lsOf E g).map fun q => q.1:=by simpa using hcon
       have hlt : i < xs.length:=by rw [a2];exact (List.getElem?_eq_some_iff.1 hc).1
       have hx : xs[i]? = some xs[i]:=List.getElem?_eq_getElem hlt
       have ht : (pars E fn)[i]? = some ((pars E fn)[i]'(by omega)):=List.getElem?_eq_getElem (by omega)
       obtain ⟨q1,q2⟩:=a3 i _ _ _ hi ht hx hc
       exact (h4 i _ _ _ ht hx hvi).2 _ _ _ _ _ q1 q2
   have htm : ∀ (i : Nat) c,cs[i]? = some c → ({ tmps:=cs.toArray ++ Array.replicate (fn.ntmps - cs.toArray.size) undef,defers:=[] } : Act).tmps.getD i undef = c:=by
    intro i c hc
    have hlt:=(List.getElem?_eq_some_iff.1 hc).1
    simp only [Array.getD_eq_getD_getElem?]
    rw [Array.getElem?_append_left (by simpa using hlt)]
    simp [hc]
   obtain ⟨β',g1,g2,g3,g4⟩:=enter_rel htm (lsOf E g) vs vs' [] H0 (fun _ => .no) gb hent st a4 hnd (fun b hb => ⟨.inr hb,(hgb b hb).2⟩) (fun b hb id k hk => by simp at hk) hps' (fun q hq y hy => by
    have hlt : q.1 < xs.length:=by rw [← h2];exact (List.getElem?_eq_some_iff.1 hy).1
    have hx : xs[q.1]? = some xs[q.1]:=List.getElem?_eq_getElem hlt
    have ht : (pars E fn)[q.1]? = some ((pars E fn)[q.1]'(by omega)):=List.getElem?_eq_getElem (by omega)
    rw [hx,(h4 _ _ _ _ ht hx hy).1 y rfl])
   simp only [List.length_nil,Nat.zero_add] at g4
   have hcs:=moveR_cs _ _ a4
   have st1 : St (waitL (lsOf E g) cs) w.heap.size (fun b => b ∈ gb) A w (padF fn.ntmps vs') H0 { tmps:=cs.toArray ++ Array.replicate (fn.ntmps - cs.toArray.size) undef,defers:=[] } w A β':=by
    refine ⟨⟨g1.fr.size,g1.fr.at_,g1.fr.defers,fun p hp t v hv => ?_,g1.fr.gl⟩,g1.hp,g1.below⟩
    simp only [waitL,List.mem_singleton] at hp
    subst hp
    simp only [List.getElem?_map,Option.map_eq_some_iff] at hv
    obtain ⟨j,hj,rfl⟩:=hv
    have hjl : t < (lsOf E g).length:=by
     have:=(List.getElem?_eq_some_iff.1 hj).1
     simpa using this
    rw [List.getElem?_range hjl] at hj
    cases hj
    obtain ⟨c,q1,q2⟩:=g4 t _ (List.getElem?_eq_getElem hjl)
    have e : ((lsOf E g).map fun q => cs.getD q.1 undef).toArray.getD t undef = c:=by
     simp [List.getElem?_eq_getElem hjl,List.getD_eq_getElem?_getD,q1]
    rw [e]
    exact q2
   have hL : ∀ p an,annE E g p = some an → ∀ q ∈ waitL (lsOf E g) cs,q.1.all (belowV 4 an.m) = true:=fun p an han => waitL_below (annE_m han)
   have hctx : CtxOk (waitL (lsOf E g) cs) w.heap.size (fun b => b ∈ gb) A w y ⟨retK E (lsOf E g) own fn,[],retK E (lsOf E g) own fn⟩ (bodyPost P fn fun e w' => ∃ v,e = .returned v ∧ RetM E (lsOf E g) own fn w A gb cs y v w'):=by
    have key : ∀ F H a w1 A1 β,retK E (lsOf E g) own fn F H = some y → St (waitL (lsOf E g) cs) w.heap.size (fun b => b ∈ gb) A w F H a w1 A1 β → a.defers = [] ∧ ∃ v,(results fn a.tmps).run P w1 = .ok v w1 ∧ ∃ v',Ending.returned v = .returned v' ∧ RetM E (lsOf E g) own fn w A gb cs y v' w1:=by
     intro F H a w1 A1 β he st
     obtain ⟨q1,v,q2,q3⟩:=retK_sound ok (fun b hb => ⟨hA b hb,fun hm => (hgb b hm).2 hb⟩) he st (waitL_get hcs st.fr)
     exact ⟨q1,v,q2,v,rfl,q3⟩
    exact ⟨fun F H a w1 A1 β he st => key F H a w1 A1 β he st,fun id k hk => by simp [findExit] at hk,fun F H a w1 A1 β he st => key F H a w1 A1 β he st⟩
   exact execK_sound (.inl hL) ok ns ds ih (inlK_sound ok ns ds ih 3) c [] _ _ _ _ _ _ _ _ hctx (jump_sound ok ns ds ih hg hc hL hctx n) h1 st1
  ·cases h1
 ·cases h1
theorem ret_of {own : List (Nat × Nat × Nat)} {fn : Func} {w w' : World} {A : Nat → Prop} {cs : List Value} {y : FV} {v : Value} (h : RetM E [] own fn w A [] cs y v w') : Ret E own fn w A y v w':=by
 obtain ⟨A',us,ys,rs,obs,ob,q1,q2,q3,q4,q5,q6,q7,q8,⟨rfl,rfl⟩,q10,q11⟩:=h
 simp only [List.append_nil] at q6 q10 q11
 refine ⟨A',us,ys,obs,q1,fun b hb => ?_,q3,⟨q4.os,q4.tape,q4.output,q4.size,fun k hk => q4.block k hk (by simp)⟩,q5,q6,q7,q8,q10,fun b hb => ?_⟩
 ·rcases q2 b hb with h | h | h
  ·exact .inl h
  ·exact .inr h
  ·cases h
 ·obtain ⟨h1,h2⟩:=q11 b hb
  rcases h1 with h1 | h1
  ·exact ⟨h1,h2⟩
  ·cases h1
theorem callF_sound (ok : EnvOk P E) (ns : NormSpec) (ds : DrawSpec P E) (ov : OvSpec P E) : ∀ n,CallSpec P E (callF E n)
 | 0 => ⟨fun g xs y own lend fn hm hg h => by simp [callF] at h,fun g xs y ls own fn hm hg h => by simp [callF] at h⟩
 | n + 1 => by
  have ih:=callF_sound ok ns ds ov n
  refine ⟨fun g xs y own lend fn hm hg h cs w A hA ha => ?_,fun g xs y ls own fn hm hg h cs w A gb hA hgb hnd ha => ?_⟩
  ·simp only [callF] at h
   split at h
   ·rename_i f hf
    exact ov.plain g f hf xs y own lend fn hm hg h cs w A hA ha
   ·rw [hm,hg] at h
    simp only at h
    have hls : lsOf E g = []:=by unfold lsOf;rw [hm]
    have:=body_sound ok ns ds ih hg h hA (gb:=[]) (by simp) List.nodup_nil (by rw [hls];exact ⟨ha.1,ha.2.1,ha.2.2.1,fun i t x c _ h1 h2 h3 => ha.2.2.2 i t x c h1 h2 h3,rfl⟩)
    rw [hls] at this
    exact this.mono fun e w' ⟨v,h1,h2⟩ => ⟨v,h1,ret_of h2⟩
  ·simp only [callF] at h
   split at h
   ·rename_i f hf
    have:=ov.none g f hf ls own
    exact absurd hm this
   ·rw [hm,hg] at h
    simp only at h
    have hls : lsOf E g = ls:=by unfold lsOf;rw [hm]
    have:=body_sound ok ns ds ih hg h hA hgb hnd (by rw [hls];exact ha)
    rw [hls] at this
    exact this
end
end Go.Proofs.YtpffkpaiihcffaaGreatDoor.VM
