/- An operation of the abstract machine stands for one of the model. -/
import Derived.Test.YtpffkpaiihcffaaGreatDoorMove
set_option linter.unusedVariables false
set_option linter.unusedSimpArgs false
set_option linter.unusedSectionVars false
namespace Go.Proofs.YtpffkpaiihcffaaGreatDoor.VM
open Go Go.RowKit
def InlPost (L : List (Fr × Act)) (B0 : Nat) (G T : Nat → Prop) (w0 : World) (k : V → Hp → R) (res : FV) (e : Ending) (w' : World) : Prop :=
 ∃ v u H' A' β',e = .returned u ∧ k v H' = some res ∧ VR w' A' β' H' v u ∧ HRel B0 G T w' A' β' H' ∧ Belowx G B0 w0 w' ∧ (∀ p ∈ L,∀ (t : Nat) v,p.1[t]? = some v → VR w' A' β' H' v (p.2.tmps.getD t undef)) ∧ GlobR w' A'
def UnchB (U : List Tok) (H2 : Hp) (id : Nat) (b : Blk) : Prop:=match b with
 | .own _ _ => (1,id,0) ∈ U ∨ H2[id]? = some b
 | .fz _ => H2[id]? = some b
 | .fzb _ => H2[id]? = some b
 | .box cs => (∃ cs',H2[id]? = some (.box cs') ∧ cs'.length = cs.length ∧ ∀ k,(0,id,k) ∈ U ∨ cs'[k]? = cs[k]?) ∨ ((∀ k,k < cs.length → (0,id,k) ∈ U) ∧ ∃ xs,H2[id]? = some (.fzb xs))
 | .map _ _ => (2,id,0) ∈ U ∨ H2[id]? = some b
 | _ => True
def UnchW (U : List Tok) (H H2 : Hp) : Prop:=∀ (id : Nat) b,H[id]? = some b → UnchB U H2 id b
def InlOk (inl : Inl) : Prop:=∀ g fn F H k res,inl g fn F H k = some res → ∃ v H' U,k v H' U = some res ∧ UnchW U H H' ∧ ∀ k',inl g fn F H k' = k' v H' U
def InlSpec (P : Program) (E : Env) (inl : Inl) : Prop:=InlOk inl ∧
 ∀ g fn F H k res L B0 G T w0 a w A β,E.mode g = .inl → E.fn g = some fn → (inl g fn F H fun v H _ => k v H) = some res → St L B0 G T w0 F H a w A β → ∃ c,fn.body = some c ∧ c.wp P (bodyPost P fn (InlPost L B0 G T w0 k res)) a w
section
variable {P : Program} {E : Env} {L : List (Fr × Act)} {B0 : Nat} {G T : Nat → Prop} {w0 w w' : World} {A A' : Nat → Prop} {β : LocOf} {H : Hp} {F : Fr} {a : Act} {o : Oper}
variable {next : Act → World → Prop} {Q : Exit → Act → World → Prop} {res : FV} {call : Nat → List FV → Option FV} {inl : Inl}
theorem pad_rel {n : Nat} {vs : List V} {us : List Value} (hl : vs.length = us.length) (hx : ∀ (i : Nat) v u,vs[i]? = some v → us[i]? = some u → VR w A β H v u) (hs : ∀ p ∈ L,∀ (t : Nat) v,p.1[t]? = some v → VR w A β H v (p.2.tmps.getD t undef)) (hgl : GlobR w A) :
  FRel L w A β H (padF n vs) { tmps:=us.toArray ++ Array.replicate (n - us.length) undef,defers:=[] }:=by
 refine ⟨by simp [padF,hl],fun t v hv => ?_,rfl,hs,hgl⟩
 unfold padF at hv
 rw [List.getElem?_append] at hv
 simp only [Array.getD_eq_getD_getElem?,Array.getElem?_append,List.size_toArray,List.getElem?_toArray]
 by_cases ht : t < vs.length
 ·rw [if_pos ht] at hv
  rw [if_pos (by omega),List.getElem?_eq_getElem (by omega)]
  exact hx t v _ hv (List.getElem?_eq_getElem (by omega))
 ·rw [if_neg ht] at hv
  rw [List.getElem?_replicate] at hv
  split at hv
  ·cases hv;exact .un _
  ·cases hv
theorem inl_ok (ok : EnvOk P E) (ispec : InlSpec P E inl) {c : Call} {fo : Operand} {g : Nat} {fn : Func} {caps : List V} {k : V → Hp → R} (ho : o.op = .call c) (hc : c.callee = .value fo) (hfo : evalV F fo = .func g caps) (hm : E.mode g = .inl) (hg : E.fn g = some fn)
  (st : St L B0 G T w0 F H a w A β) (hn : Nxt L B0 G T w0 F a o next res k) (h : (inl g fn (padF fn.ntmps (c.args.toList.map (evalV F) ++ caps)) H fun v H _ => k v H) = some res) : o.wp P a w next Q:=by
 have hfv:=hfo ▸ st.ev fo
 generalize hfc : a.eval fo = fc at hfv
 cases hfv with
 | func _ _ us hl hcap =>
  have hargs : ∀ (i : Nat) v u,(c.args.toList.map (evalV F) ++ caps)[i]? = some v → (c.args.toList.map a.eval ++ us)[i]? = some u → VR w A β H v u:=by
   intro i v u hv hu
   rw [List.getElem?_append] at hv hu
   simp only [List.length_map] at hv hu
   by_cases hi : i < c.args.toList.length
   ·rw [if_pos hi,List.getElem?_map] at hv hu
    rw [List.getElem?_eq_getElem hi] at hv hu
    cases hv;cases hu
    exact st.ev _
   ·rw [if_neg hi] at hv hu
    exact hcap _ v u hv hu
  have hlen : (c.args.toList.map (evalV F) ++ caps).length = (c.args.toList.map a.eval ++ us).length:=by simp [hl]
  have st1 : St ((F,a) :: L) B0 G T w0 (padF fn.ntmps (c.args.toList.map (evalV F) ++ caps)) H { tmps:=(c.args.toList.map a.eval ++ us).toArray ++ Array.replicate (fn.ntmps - (c.args.toList.map a.eval ++ us).length) undef,defers:=[] } w A β :=
   ⟨pad_rel hlen hargs (fun p hp t v hv => by
    rcases List.mem_cons.1 hp with rfl | hp
    ·exact st.fr.at_ t v hv
    ·exact st.fr.sus p hp t v hv) st.fr.gl,st.hp,st.below⟩
  obtain ⟨cd,hb,hwp⟩:=ispec.2 g fn _ H k res _ _ _ _ _ _ _ _ _ hm hg h st1
  obtain ⟨e1,_,_⟩:=ok.fn g fn hg
  have hcalls : Calls P g (c.args.toList.map a.eval ++ us).toArray w (InlPost ((F,a) :: L) B0 G T w0 k res):=calls_of_wp e1 hb (by simpa using hwp)
  refine upon_enter (run_enter ok ho hc hfc hg) hcalls fun e w' he => ?_
  obtain ⟨v,u,H',A',β',rfl,q1,q2,q3,q4,q5⟩:=he
  refine ⟨u,rfl,?_⟩
  refine hn v H' u w' A' β' q1 q2 ⟨⟨st.fr.size,fun t v hv => q5.1 (F,a) (by simp) t v hv,st.fr.defers,fun p hp => q5.1 p (by simp [hp]),q5.2⟩,q3,q4⟩
theorem optR {x : Option Operand} {y : Option FV} (st : St L B0 G T w0 F H a w A β) (h : optF (x.map (evalV F)) = some y) : OptR w A y (x.map a.eval):=by
 cases x with
 | none => cases h;exact .none
 | some p =>
  simp only [Option.map_some] at h ⊢
  generalize hv : evalV F p = v at h
  cases v with
  | f z => cases h;exact .some _ _ (hv ▸ st.ev p).f'.1
  | _ => cases h
theorem builtin_sound (ok : EnvOk P E) {c : Call} {b : Builtin} {nid : Nat} {k : V → Hp → R} (ho : o.op = .call c) (hc : c.callee = .builtin b) (h : builtinK E nid b c.argTypes (c.args.toList.map (evalV F)) H k = some res)
  (st : St L B0 G T w0 F H a w A β) (hn : Nxt L B0 G T w0 F a o next res k) : o.wp P a w next Q:=by
 generalize hav : c.args.toList.map (evalV F) = av at h
 unfold builtinK at h
 split at h
 ·
  rename_i v
  split at h
  ·rename_i t hts
   have hk:=(ok.ty t).k
   split at h
   ·rename_i e x he
    rw [he] at hk
    obtain ⟨z,h1,h2⟩:=bindO_some h
    exact len_ok ok.ty ho hc hts hav (fun u hu => fLen_run hk.1 o.type h1 hu.f'.1) st hn h2
   ·rename_i x he
    rw [he] at hk
    obtain ⟨z,h1,h2⟩:=bindO_some h
    exact len_ok ok.ty ho hc hts hav (fun u hu => fLenT_run hk o.type h1 hu.f'.1) st hn h2
   ·rename_i e id he
    rw [he] at hk
    split at h
    ·rename_i r hr
     exact len_ok ok.ty ho hc hts hav (fun u hu => lenRef_run hk.1 hr hu) st hn h
    ·cases h
   ·rename_i kt e id he
    rw [he] at hk
    split at h
    ·rename_i ag es hid
     exact len_ok ok.ty ho hc hts hav (fun u hu => lenMap_run hk.1 hid st.hp hu) st hn h
    ·cases h
   ·cases h
  ·cases h
 ·
  rename_i v
  split at h
  ·rename_i t hts
   have hk:=(ok.ty t).k
   split at h
   ·rename_i e x he
    rw [he] at hk
    obtain ⟨z,h1,h2⟩:=bindO_some h
    exact cap_ok hk.1 ho hc hts hav h1 st hn h2
   ·cases h
  ·cases h
 ·
  rename_i s x
  split at h
  ·rename_i t tx hts
   have hk:=(ok.ty tx).k
   split at h
   ·rename_i e e' he he'
    rw [he'] at hk
    exact append_ok ok.ty ho hc hts he (fun hf => by cases hf) (fun _ => ⟨_,hk.1⟩) hav st hn h
   ·rename_i e he he'
    rw [he'] at hk
    exact append_ok ok.ty ho hc hts he (fun _ => hk) (fun hf => by cases hf) hav st hn h
   ·rename_i e kx he he'
    rw [he'] at hk
    unfold appendZ at h
    split at h
    ·split at h
     ·obtain ⟨hy,h⟩:=onNil_some h
      obtain ⟨n,hn1,h⟩:=bindO_some h
      obtain ⟨hroom,h⟩:=gB_some h
      simp only [decide_eq_true_eq] at hroom
      exact appendZ_ok ok.ty ho hc hts he hk hav hy hn1 hroom st hn h
     ·cases h
    ·cases h
   ·cases h
  ·cases h
 ·rename_i x rest
  exact minmax_ok (b:=false) ho hc hav st hn h
 ·rename_i x rest
  exact minmax_ok (b:=true) ho hc hav st hn h
 ·cases h
theorem callK_sound (ok : EnvOk P E) (spec : CallSpec P E call) (ispec : InlSpec P E inl) {c : Call} {fo : Operand} {g nid : Nat} {caps : List V} {k : V → Hp → R} (ho : o.op = .call c) (hc : c.callee = .value fo) (hfo : evalV F fo = .func g caps)
  (h : callK E call inl nid g (c.args.toList.map (evalV F) ++ caps) H k = some res) (st : St L B0 G T w0 F H a w A β) (hn : Nxt L B0 G T w0 F a o next res k) : o.wp P a w next Q:=by
 unfold callK at h
 split at h
 ·rename_i own lend fn hm hg
  obtain ⟨hcond,h⟩:=gB_some h
  simp only [Bool.and_eq_true] at hcond
  split at h
  ·split at h
   ·obtain ⟨hp,h⟩:=gB_some h
    obtain ⟨x,hx,h⟩:=bindO_some h
    obtain ⟨hsc,h⟩:=gB_some h
    split at h
    ·rename_i h1
     exact lend_ok ok spec ho hc hfo hm hg hcond.1 hx h1 hsc st hn h
    ·cases h
   ·cases h
  ·obtain ⟨x,hx,h⟩:=bindO_some h
   exact call_ok ok spec ho hc hfo hm hg hcond.1 hx st hn h
 ·rename_i ls own fn hm hg
  exact moves_ok ok spec ho hc hfo hm hg h st hn
 ·rename_i fn hm hg
  exact inl_ok ok ispec ho hc hfo hm hg st hn h
 ·cases h
theorem optF_none {x : Option Operand} (h : optF (x.map (evalV F)) = some none) : x = none:=by
 cases x with
 | none => rfl
 | some p =>
  simp only [Option.map_some] at h
  generalize evalV F p = v at h
  cases v <;> simp [optF] at h
theorem optF_some {x : Option Operand} {y : FV} (h : optF (x.map (evalV F)) = some (some y)) : ∃ p,x = some p ∧ evalV F p = .f y:=by
 cases x with
 | none => cases h
 | some p =>
  simp only [Option.map_some] at h
  generalize hv : evalV F p = v at h
  cases v with
  | f z => cases h;exact ⟨p,rfl,hv⟩
  | _ => cases h
theorem optR' {x : Option Operand} {y : Option FV} {w1 : World} {A1 : Nat → Prop} (fe : FExt w A w1 A1) (st : St L B0 G T w0 F H a w A β) (h : optF (x.map (evalV F)) = some y) : OptR w1 A1 y (x.map a.eval):=by
 cases x with
 | none => cases h;exact .none
 | some p =>
  simp only [Option.map_some] at h ⊢
  generalize hv : evalV F p = v at h
  cases v with
  | f z => cases h;exact .some _ _ ((hv ▸ st.ev p).f'.1.mono fe)
  | _ => cases h
theorem FR_str_one {l : List UInt8} {u : Value} (h : FR w A (.str l) u) : u.oneCell' = true:=by cases h;rfl
theorem slice_sound (ok : EnvOk P E) {cuts : List Nat} {nid : Nat} {t : TypeId} {x : Operand} {lo hi mx : Option Operand} {k : V → Hp → R} (ho : o.op = .slice t x lo hi mx) {ops : Array Oper} (h : opK E call inl cuts ops o nid F H k = some res)
  (st : St L B0 G T w0 F H a w A β) (hn : Nxt L B0 G T w0 F a o next res k) : o.wp P a w next Q:=by
 simp only [opK,ho] at h
 split at h
 ·rename_i flo fhi fmx hlo hhi hmx
  have hk:=(ok.ty t).k
  split at h
  ·rename_i ht
   rw [ht] at hk
   have:=optF_none hmx
   subst this
   generalize hx : evalV F x = v at h
   cases v with
   | f s =>
    simp only at h
    obtain ⟨z,hz,h⟩:=bindO_some h
    obtain ⟨u,h1,h2⟩:=fSub_run (P:=P) hk hz (hx ▸ st.ev x).f'.1 (optR st hlo) (optR st hhi)
    refine wp_val st hn h (.f _ _ h2 ?_) (by simp only [execOp,ho,Sem.run_bind,Option.map_none,h1];rfl)
    unfold fSub at hz
    split at hz
    ·obtain ⟨p,_,hz⟩:=bindO_some hz;cases hz;exact FR_str_one h2
    ·cases hz
   | _ => simp at h
  ·rename_i e ht
   rw [ht] at hk
   have:=optF_none hmx
   subst this
   have hsz : ∀ w,(Go.sizeOf e).run P w = .ok (E.ty e).size w:=fun w => run_sizeOf w (ok.ty e) hk.2.1
   split at h
   ·generalize hx : evalV F x = v at h
    cases v with
    | ref id =>
     simp only at h
     split at h
     ·rename_i sz r hid
      obtain ⟨hs,h⟩:=gB_some h
      obtain ⟨p,hp,h⟩:=bindO_some h
      exact cut_ok ok.ty ho ht hx hid (Nat.eq_of_beq_eq_true hs) (optR st hlo) (optR st hhi) hp st hn h
     ·cases h
    | _ => simp at h
   ·obtain ⟨z,hz,h⟩:=bindO_some h
    refine slice_ok ok.ty ho ht (fun fe hc => ?_) st hn h
    obtain ⟨u,h1,h2⟩:=fCut_run (P:=P) hk.1 hsz hz hc (optR' fe st hlo) (optR' fe st hhi)
    exact ⟨u,h1,h2,sliceAt_one (e:=e) hk.1 h1⟩
  ·rename_i e m ht
   rw [ht] at hk
   have hsz : ∀ w,(Go.sizeOf e).run P w = .ok (E.ty e).size w:=fun w => run_sizeOf w (ok.ty e) hk.2.1
   obtain ⟨pm,rfl,hm⟩:=optF_some hmx
   split at h
   ·rename_i hh
    obtain ⟨ph,rfl,hph⟩:=optF_some hhi
    obtain ⟨h',e1,h⟩:=bindO_some h
    obtain ⟨m',e2,h⟩:=bindO_some h
    obtain ⟨e3,h9⟩:=gB_some h
    have e4:=Nat.eq_of_beq_eq_true e3
    subst e4
    obtain ⟨z,hz,h9⟩:=bindO_some h9
    refine slice_ok ok.ty ho ht (fun fe hc => ?_) st hn h9
    obtain ⟨u,h1,h2⟩:=fCut3_run (P:=P) hk.1 hsz hz hc (optR' fe st hlo) ((hph ▸ st.ev ph).f'.1.mono fe) ((hm ▸ st.ev pm).f'.1.mono fe) e1 e2
    exact ⟨u,h1,h2,sliceAt_one (e:=e) hk.1 h1⟩
   ·cases h
  ·cases h
 ·cases h
theorem opK_sound (ok : EnvOk P E) (spec : CallSpec P E call) (ispec : InlSpec P E inl) {cuts : List Nat} {ops : Array Oper} {nid : Nat} {k : V → Hp → R} (h : opK E call inl cuts ops o nid F H k = some res)
  (st : St L B0 G T w0 F H a w A β) (hn : Nxt L B0 G T w0 F a o next res k) : o.wp P a w next Q:=by
 cases ho : o.op with
 | move x => simp only [opK,ho] at h;exact move_ok ok.ty (.inl ho) st hn h
 | assign x => simp only [opK,ho] at h;exact move_ok ok.ty (.inr ho) st hn h
 | pick c x y =>
  simp only [opK,ho] at h
  split at h
  ·rename_i b hc
   exact pick_ok (v:=if b then evalV F x else evalV F y) ok.ty ho hc rfl st hn (by cases b <;> exact h)
  ·rename_i fc hnb hc
   split at h
   ·obtain ⟨z,hz,h⟩:=bindO_some h
    rcases fCond_some hz with ⟨q,_⟩ | ⟨q,_⟩
    ·subst q;exact (hnb true rfl).elim
    ·subst q;exact (hnb false rfl).elim
   ·cases h
  ·cases h
 | alloc t =>
  simp only [opK,ho] at h
  obtain ⟨h1,h⟩:=gB_some h
  exact alloc_ok ok.ty ho h1 st hn h
 | box t x =>
  simp only [opK,ho] at h
  split at h
  ·rename_i vs hvs
   obtain ⟨h1,h⟩:=gB_some h
   simp only [Bool.and_eq_true] at h1
   exact box_ok ok.ty ho h1.1 hvs st hn h
  ·cases h
 | build t parts =>
  simp only [opK,ho] at h
  split at h
  ·rename_i fs hk
   split at h
   ·rename_i cs hcs;exact buildStruct_ok ok.ty ho hk hcs st hn h
   ·cases h
  ·rename_i n e hk
   split at h
   ·rename_i cs hcs;exact buildArray_ok ok.ty ho hk hcs st hn h
   ·cases h
  ·cases h
 | buildSlice t len parts =>
  simp only [opK,ho] at h
  split at h
  ·rename_i e ht
   split at h
   ·rename_i r hr
    obtain ⟨h1,h⟩:=gB_some h
    simp only [Bool.and_eq_true] at h1
    exact buildSlice_ok (fd:=feeds ops o.dst) ok.ty ho ht hr (Nat.eq_of_beq_eq_true h1.1.1) (Nat.le_of_ble_eq_true h1.2) st hn h
   ·cases h
  ·cases h
 | load t p => simp only [opK,ho] at h;exact load_ok ok.ty ho st hn h
 | store t p x =>
  simp only [opK,ho] at h
  unfold storeK at h
  split at h
  ·rename_i vs hvs
   obtain ⟨h1,h⟩:=gB_some h
   simp only [Bool.and_eq_true] at h1
   have hl : vs.length = (E.ty t).size:=by simpa using h1.2
   split at h
   ·rename_i id i oo hp
    split at h
    ·rename_i cs hid
     obtain ⟨h2,h9⟩:=gB_some h
     simp only [Bool.and_eq_true] at h2
     have hi:=Nat.eq_of_beq_eq_true h2.1
     subst hi
     exact storeBox_ok ok.ty ho h1.1 hvs hl hp hid (Nat.le_of_ble_eq_true h2.2) st hn h9
    ·rename_i s0 r hid
     obtain ⟨h2,h⟩:=gB_some h
     obtain ⟨r',hr',h⟩:=bindO_some h
     split at h
     ·rename_i s1 q hq
      exact storeRow_ok ok.ty ho h1.1 hvs hl hp hid hr' hq st hn h
     ·cases h
    ·cases h
   ·cases h
  ·cases h
 | nilCheck x =>
  simp only [opK,ho] at h
  split at h
  ·rename_i id i off hx
   obtain ⟨h1,h⟩:=gB_some h
   exact nilPtr_ok ok.ty ho hx h1 st hn h
  ·rename_i g cs hx
   exact nilFunc_ok ok.ty ho hx st hn h
  ·cases h
 | binOp op xt x y yt =>
  simp only [opK,ho] at h
  split at h
  ·rename_i hy
   split at h
   ·rename_i e ht;exact nil_ok (neg:=false) ok.ty ho hy ht rfl st hn h
   ·rename_i e ht;exact nil_ok (neg:=true) ok.ty ho hy ht rfl st hn h
   ·cases h
  split at h
  ·rename_i p q hx hy
   split at h
   ·rename_i ht
    obtain ⟨z,hz,h⟩:=bindO_some h
    exact boolBin_ok ok.ty ho ht hx hy hz st hn h
   ·obtain ⟨z,hz,h⟩:=bindO_some h
    exact binOp_ok ok.ty ho hx hy hz st hn h
  ·rename_i p q hx hy
   obtain ⟨h1,h⟩:=gB_some h
   obtain ⟨z,hz,h⟩:=bindO_some h
   exact aggBin_ok ok.ty ho hx hy hz h1 st hn h
  ·cases h
 | unOp op xt x =>
  simp only [opK,ho] at h
  split at h
  ·rename_i p hx
   obtain ⟨z,hz,h⟩:=bindO_some h
   exact unOp_ok ok.ty ho hx hz st hn h
  ·cases h
 | convert sd d x =>
  simp only [opK,ho] at h
  split at h
  ·rename_i kd fa hd hx
   obtain ⟨h1,h⟩:=gB_some h
   obtain ⟨z,hz,h⟩:=bindO_some h
   exact convInt_ok ok.ty ho hd hx h1 hz st hn h
  ·rename_i fa hd hx
   split at h
   ·rename_i e hs
    split at h
    ·rename_i he
     obtain ⟨z,hz,h⟩:=bindO_some h
     exact convStr_ok ok.ty ho hd hs he hx hz st hn h
    ·cases h
   ·rename_i hs
    obtain ⟨z,hz,h⟩:=bindO_some h
    exact convStrI_ok ok.ty ho hd (by unfold TyI.known;rw [hs]) hx hz st hn h
   ·rename_i kk hs
    obtain ⟨z,hz,h⟩:=bindO_some h
    exact convStrI_ok ok.ty ho hd (by unfold TyI.known;rw [hs]) hx hz st hn h
   ·cases h
  ·rename_i id hd hx
   split at h
   ·rename_i e hs
    split at h
    ·rename_i he
     split at h
     ·rename_i r hr
      obtain ⟨z,hz,h⟩:=bindO_some h
      exact convRef_ok ok.ty ho hd hs he hx hr hz st hn h
     ·cases h
    ·cases h
   ·cases h
  ·cases h
 | makeFunc fn first captured =>
  cases fn with
  | func g =>
   simp only [opK,ho] at h
   split at h
   ·rename_i hf;exact makeFunc_ok ho hf st hn h
   ·cases h
  | _ => simp only [opK,ho] at h;cases h
 | makeMap t r =>
  cases r with
  | none =>
   simp only [opK,ho] at h
   split at h
   ·exact makeMap_ok ho st hn h
   ·cases h
  | some r => simp only [opK,ho] at h;cases h
 | makeSlice t l c =>
  simp only [opK,ho] at h
  split at h
  ·rename_i e fl fc ht hl hc
   obtain ⟨n,hn1,h⟩:=bindO_some h
   obtain ⟨m,hm1,h⟩:=bindO_some h
   obtain ⟨h1,h⟩:=gB_some h
   simp only [Bool.and_eq_true,decide_eq_true_eq] at h1
   exact makeSlice_ok ok.ty ho ht hl hc hn1 hm1 h1.1.1 h1.1.2 st hn h
  ·cases h
 | slice t x lo hi mx => exact slice_sound ok ho h st hn
 | fieldAddr t x i =>
  simp only [opK,ho] at h
  split at h
  ·rename_i off size agg hf
   split at h
   ·rename_i p hx
    obtain ⟨q,hq,h⟩:=bindO_some h
    unfold fAddrO at hq
    split at hq
    ·cases hq
     exact fieldAddr_ok ok.ty ho hf (.inl ⟨_,hx,⟨_,_,rfl⟩,rfl⟩) st hn h
    ·cases hq
   ·rename_i id r oo hx
    obtain ⟨h1,h⟩:=gB_some h
    exact fieldAddr_ok ok.ty ho hf (.inr ⟨_,_,_,hx,rfl,h1⟩) st hn h
   ·cases h
  ·cases h
 | field t x i =>
  simp only [opK,ho] at h
  split at h
  ·rename_i off size agg cs hf hx
   split at h
   ·obtain ⟨h1,h⟩:=gB_some h
    exact field_ok ok.ty ho hf hx (.inl ⟨rfl,rfl,Nat.le_of_ble_eq_true h1⟩) st hn h
   ·split at h
    ·rename_i v hv
     exact field_ok ok.ty ho hf hx (.inr ⟨rfl,hv⟩) st hn h
    ·cases h
  ·cases h
 | indexAddr t x i => simp only [opK,ho] at h;exact indexAddr_ok ok.ty ho st hn h
 | index t x i =>
  simp only [opK,ho] at h
  split at h
  ·rename_i s fi ht hx hi
   obtain ⟨z,hz,h⟩:=bindO_some h
   have hk:=(ok.ty t).k
   rw [ht] at hk
   exact index_ok ho hk hx hi hz st hn h
  ·rename_i n e cs fi ht hx hi
   obtain ⟨hc,h⟩:=gB_some h
   obtain ⟨xs,hcs,h⟩:=bindO_some h
   obtain ⟨j,hj,h⟩:=bindO_some h
   obtain ⟨hjn,h⟩:=gB_some h
   split at h
   ·rename_i hea
    rw [arrCellsK_eq] at h
    obtain ⟨vs,hz,h⟩:=bindO_some h
    exact indexAgg_ok ok.ty ho ht hx hi hc hea hcs hj (of_decide_eq_true hjn) hz st hn h
   ·rename_i hea
    obtain ⟨hsz,h⟩:=gB_some h
    obtain ⟨z,hz,h⟩:=bindO_some h
    exact indexArr_ok ok.ty ho ht hx hi hc hea (Nat.eq_of_beq_eq_true hsz) hcs hj (of_decide_eq_true hjn) hz st hn h
  ·cases h
 | lookup t m key okk =>
  simp only [opK,ho] at h
  split at h
  ·rename_i kt e id ht hm
   split at h
   ·rename_i ag es hid
    obtain ⟨h1,h⟩:=gB_some h
    simp only [Bool.and_eq_true] at h1
    obtain ⟨r,hr,h⟩:=bindO_some h
    exact lookup_ok ok.ty ho ht hm hid h1.1.1.1 h1.1.2 h1.2 hr st hn (by cases okk <;> exact h)
   ·cases h
  ·cases h
 | mapUpdate t m key x =>
  simp only [opK,ho] at h
  split at h
  ·rename_i kt e id ht hm
   split at h
   ·rename_i ag es hid
    obtain ⟨h1,h⟩:=gB_some h
    obtain ⟨h2,h⟩:=gB_some h
    obtain ⟨es2,h3,h⟩:=bindO_some h
    split at h
    ·rename_i ag' es3 hst
     simp only [Bool.and_eq_true] at h1
     exact mapUpdate_ok ok.ty (.inl ho) ht hm hid h1.1.1.1.1.1 h1.1.1.1.1.2 h1.1.1.2 h2 h3 hst st hn h
    ·cases h
   ·cases h
  ·cases h
 | insert t m key x =>
  simp only [opK,ho] at h
  split at h
  ·rename_i kt e id ht hm
   split at h
   ·rename_i ag es hid
    obtain ⟨h1,h⟩:=gB_some h
    obtain ⟨h2,h⟩:=gB_some h
    obtain ⟨es2,h3,h⟩:=bindO_some h
    split at h
    ·rename_i ag' es3 hst
     simp only [Bool.and_eq_true] at h1
     exact mapUpdate_ok ok.ty (.inr ho) ht hm hid h1.1.1.1.1.1 h1.1.1.1.1.2 h1.1.1.2 h2 h3 hst st hn h
    ·cases h
   ·cases h
  ·cases h
 | range t x =>
  simp only [opK,ho] at h
  split at h
  ·rename_i s ht hx
   have hk:=(ok.ty t).k
   rw [ht] at hk
   obtain ⟨h1,h⟩:=gB_some h
   exact range_ok ho hk hx (by unfold isStrF at h1;split at h1;exact ⟨_,rfl⟩;cases h1) st hn h
  ·cases h
 | next x isS =>
  cases isS with
  | true =>
   simp only [opK,ho] at h
   split at h
   ·rename_i id hx
    split at h
    ·rename_i s pos hid
     obtain ⟨r,hr,h⟩:=bindO_some h
     exact next_ok ho hx hid hr st hn h
    ·cases h
   ·cases h
  | false => simp only [opK,ho] at h;cases h
 | extract x i =>
  simp only [opK,ho] at h
  split at h
  ·rename_i vs hx
   split at h
   ·rename_i v hv;exact extract_ok ho hx hv st hn h
   ·cases h
  ·cases h
 | call c =>
  simp only [opK,ho] at h
  split at h
  ·rename_i b hc
   exact builtin_sound ok ho hc h st hn
  ·rename_i fo hc
   split at h
   ·rename_i g caps hfo
    exact callK_sound ok spec ispec ho hc hfo h st hn
   ·rename_i x hfo
    obtain ⟨h1,h⟩:=gB_some h
    simp only [Bool.and_eq_true] at h1
    obtain ⟨y,hy,h⟩:=bindO_some h
    exact dyn_ok ok spec ho hc hfo h1.1 hy st hn h
   ·cases h
  ·cases h
 | _ => simp only [opK,ho] at h;cases h
end
end Go.Proofs.YtpffkpaiihcffaaGreatDoor.VM
