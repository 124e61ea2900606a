/- Calls out of a frame. -/
import Derived.Test.YtpffkpaiihcffaaGreatDoorBack
set_option linter.unusedVariables false
set_option linter.unusedSimpArgs false
set_option linter.unusedSectionVars false
namespace Go.Proofs.YtpffkpaiihcffaaGreatDoor.VM
open Go Go.RowKit
structure EnvOk (P : Program) (E : Env) : Prop where
 ty : TyOk P E.ty
 fn : ∀ g fn,E.fn g = some fn → P.funcs[g]? = some fn ∧ fn.body.isNone = false ∧ (fn.name == "runtime.NumGoroutine") = false
 mixed : P.follows .mixedOrders = true
def ArgsR (E : Env) (w : World) (A : Nat → Prop) (ts : List Nat) (xs : List FV) (cs : List Value) : Prop :=
 ts.length = xs.length ∧ xs.length = cs.length ∧ GlobR w A ∧ ∀ (i : Nat) t x c,ts[i]? = some t → xs[i]? = some x → cs[i]? = some c → FR w A x c ∧ ((E.ty t).isAgg = false → c.oneCell' = true)
def packVal : List Value → Value
 | [v] => v
 | vs => .tuple vs.toArray
def Ret (E : Env) (own : List (Nat × Nat × Nat)) (fn : Func) (w : World) (A : Nat → Prop) (y : FV) (v : Value) (w' : World) : Prop :=
 ∃ A' us ys obs,FExt w A w' A' ∧ (∀ b,A' b → A b ∨ w.heap.size ≤ b) ∧ (∀ b,A' b → b < w'.heap.size) ∧ Below w.heap.size w w' ∧ v = packVal us ∧ y = packF ys ∧ ys.length = fn.resultTypes.size ∧
  ResAll E w' A' own 0 fn.resultTypes.toList ys us obs ∧ obs.Nodup ∧ ∀ b ∈ obs,w.heap.size ≤ b ∧ ¬ A' b
def MoveR (w : World) (A : Nat → Prop) (xs : List FV) (cs : List Value) : List (Nat × Nat × Bool) → List Nat → Prop
 | [],gb => gb = []
 | q :: ls,gb => ∃ x c rows o1 o2,gb = o1 ++ o2 ∧ xs[q.1]? = some x ∧ cs[q.1]? = some c ∧ (x = .arr rows ∨ (x = .nilS ∧ rows = [])) ∧ OwnedV w A q.2.1 (.arr rows) c o1 ∧ MoveR w A xs cs ls o2
def ArgsM (E : Env) (w : World) (A : Nat → Prop) (ls : List (Nat × Nat × Bool)) (ts : List Nat) (xs : List FV) (cs : List Value) (gb : List Nat) : Prop :=
 ts.length = xs.length ∧ xs.length = cs.length ∧ GlobR w A ∧ (∀ (i : Nat) t x c,i ∉ ls.map (fun q => q.1) → ts[i]? = some t → xs[i]? = some x → cs[i]? = some c → FR w A x c ∧ ((E.ty t).isAgg = false → c.oneCell' = true)) ∧ MoveR w A xs cs ls gb
def BackR (w : World) (A : Nat → Prop) (cs : List Value) : List (Nat × Nat × Bool) → List FV → List Nat → Prop
 | [],rs,ob => rs = [] ∧ ob = []
 | q :: ls,rs,ob => match q.2.2 with
  | true => ∃ r rs' c o1 o2,rs = .arr r :: rs' ∧ ob = o1 ++ o2 ∧ cs[q.1]? = some c ∧ OwnedV w A q.2.1 (.arr r) c o1 ∧ BackR w A cs ls rs' o2
  | false => BackR w A cs ls rs ob
def RetM (E : Env) (ls : List (Nat × Nat × Bool)) (own : List (Nat × Nat × Nat)) (fn : Func) (w : World) (A : Nat → Prop) (gb : List Nat) (cs : List Value) (y : FV) (v : Value) (w' : World) : Prop :=
 ∃ A' us ys rs obs ob,FExt w A w' A' ∧ (∀ b,A' b → A b ∨ w.heap.size ≤ b ∨ b ∈ gb) ∧ (∀ b,A' b → b < w'.heap.size) ∧ Belowx (fun b => b ∈ gb) w.heap.size w w' ∧ v = packVal us ∧ y = packF (ys ++ rs) ∧ ys.length = fn.resultTypes.size ∧
  ResAll E w' A' own 0 fn.resultTypes.toList ys us obs ∧ BackR w' A' cs ls rs ob ∧ (obs ++ ob).Nodup ∧ ∀ b ∈ obs ++ ob,(w.heap.size ≤ b ∨ b ∈ gb) ∧ ¬ A' b
structure CallSpec (P : Program) (E : Env) (call : Nat → List FV → Option FV) : Prop where
 plain : ∀ g xs y own lend fn,E.mode g = .call own lend → E.fn g = some fn → call g xs = some y → ∀ (cs : List Value) (w : World) (A : Nat → Prop),(∀ b,A b → b < w.heap.size) → ArgsR E w A (pars E fn) xs cs →
  Calls P g cs.toArray w fun e w' => ∃ v,e = .returned v ∧ Ret E own fn w A y v w'
 move : ∀ g xs y ls own fn,E.mode g = .move ls own → E.fn g = some fn → call g xs = some y → ∀ (cs : List Value) (w : World) (A : Nat → Prop) (gb : List Nat),(∀ b,A b → b < w.heap.size) → (∀ b ∈ gb,b < w.heap.size ∧ ¬ A b) → gb.Nodup → ArgsM E w A ls (pars E fn) xs cs gb →
  Calls P g cs.toArray w fun e w' => ∃ v,e = .returned v ∧ RetM E ls own fn w A gb cs y v w'
section
variable {P : Program} {E : Env} {L : List (Fr × Act)} {B0 : Nat} {G T : Nat → Prop} {w0 w w' : World} {A A' : Nat → Prop} {β : LocOf} {H : Hp} {F : Fr} {a : Act} {o : Oper}
variable {next : Act → World → Prop} {Q : Exit → Act → World → Prop} {res : FV} {call : Nat → List FV → Option FV}
theorem run_enter (ok : EnvOk P E) {c : Call} {fo : Operand} {g : Nat} {fn : Func} {us : List Value} (ho : o.op = .call c) (hc : c.callee = .value fo) (hf : a.eval fo = .func (.func g) #[] us.toArray) (hg : E.fn g = some fn) :
  (execOp a.eval o).run P w = .ok (.enter g ((c.args.toList.map a.eval) ++ us).toArray) w:=by
 obtain ⟨h1,h2,h3⟩:=ok.fn g fn hg
 have he : (#[] : Array Value) ++ c.args.map a.eval ++ us.toArray = ((c.args.toList.map a.eval) ++ us).toArray:=by
  apply Array.ext';simp
 simp only [execOp,ho,resolve,hc,hf,Deferred.ofValue,Sem.run_bind,Sem.run_pure,Result.andThen,invoke,callFunc,run_program,h1,h2,h3,Bool.false_eq_true,if_false,he]
theorem upon_enter {g : Nat} {args : Array Value} {w1 : World} {R : Ending → World → Prop} (hr : (execOp a.eval o).run P w = .ok (.enter g args) w1) (hc : Calls P g args w1 R) (h : ∀ e w',R e w' → ∃ v,e = .returned v ∧ next (a.put o.dst v) w') : o.wp P a w next Q:=by
 unfold Oper.wp
 rw [hr,Oper.upon_enter]
 refine hc.mono fun e w' he => ?_
 obtain ⟨v,rfl,hn⟩:=h e w' he
 exact hn
theorem fitsAll_get : ∀ {ts : List Nat} {vs : List V},fitsAll E ts vs = true → ts.length = vs.length ∧ ∀ (i : Nat) t v,ts[i]? = some t → vs[i]? = some v → (E.ty t).known = true ∧ fitsV (E.ty t).isAgg v = true
 | [],[],h => ⟨rfl,by simp⟩
 | [],v :: vs,h => by simp [fitsAll] at h
 | t :: ts,[],h => by simp [fitsAll] at h
 | t :: ts,v :: vs,h => by
  simp only [fitsAll,Bool.and_eq_true] at h
  obtain ⟨h1,h2⟩:=fitsAll_get h.2
  refine ⟨by simp [h1],fun i t' v' ht hv => ?_⟩
  cases i with
  | zero => cases ht;cases hv;exact h.1
  | succ i => exact h2 i t' v' ht hv
theorem resultsOf_eq {n : Nat} {ys : List FV} {k : List FV → R} (hl : ys.length = n) (h : resultsOf n (packF ys) k = some res) : k ys = some res:=by
 unfold resultsOf at h
 split at h
 ·match ys,hl with
  | [y],_ => exact h
 ·rename_i n hn
  obtain ⟨h1,h⟩:=gB_some h
  have hp : packF ys = .tup ys:=by
   unfold packF
   split
   ·exact absurd hl.symm hn
   ·rfl
  rw [hp] at h
  have : (List.range ys.length).map (fun i => fTup (.tup ys) i) = ys:=by
   apply List.ext_getElem?
   intro i
   rw [List.getElem?_map]
   by_cases hi : i < ys.length
   ·rw [List.getElem?_range hi];simp [fTup,hi]
   ·rw [List.getElem?_eq_none (by simpa using hi),List.getElem?_eq_none (by omega)];rfl
  rw [← hl,this] at h
  exact h
theorem pack_rel {vs : List V} {us : List Value} (hl : vs.length = us.length) (hx : ∀ (m : Nat) v u,vs[m]? = some v → us[m]? = some u → VR w A β H v u) : VR w A β H (packV vs) (packVal us):=by
 match vs,us,hl with
 | [],[],_ => exact VR.tup [] [] rfl (by simp)
 | [v],[u],_ => exact hx 0 v u rfl rfl
 | v1 :: v2 :: vs,u1 :: u2 :: us,hl => exact VR.tup _ _ hl hx
theorem call_ok (ok : EnvOk P E) (spec : CallSpec P E call) {c : Call} {fo : Operand} {g nid : Nat} {fn : Func} {own : List (Nat × Nat × Nat)} {caps : List V} {x : FV} {k : V → Hp → R} (ho : o.op = .call c) (hc : c.callee = .value fo) (hfo : evalV F fo = .func g caps) (hm : E.mode g = .call own false) (hg : E.fn g = some fn)
  (hfit : fitsAll E (pars E fn) (c.args.toList.map (evalV F) ++ caps) = true) (hx : call g ((c.args.toList.map (evalV F) ++ caps).map (frz H)) = some x) (st : St L B0 G T w0 F H a w A β) (hn : Nxt L B0 G T w0 F a o next res k)
  (h : resultsOf fn.resultTypes.size x (fun xs => backK E own 0 nid fn.resultTypes.toList xs ((c.args.toList.map (evalV F) ++ caps).foldl marks H) [] fun vs H => k (packV vs) H) = some res) : o.wp P a w next Q:=by
 have hfv:=hfo ▸ st.ev fo
 generalize hfc : a.eval fo = fc at hfv
 cases hfv with
 | func _ _ us hl hcap =>
  have hargs : ∀ (i : Nat) v u,(c.args.toList.map (evalV F) ++ caps)[i]? = some v → (c.args.toList.map a.eval ++ us)[i]? = some u → VR w A β H v u:=by
   intro i v u hv hu
   rw [List.getElem?_append] at hv hu
   simp only [List.length_map] at hv hu
   by_cases hi : i < c.args.toList.length
   ·rw [if_pos hi,List.getElem?_map] at hv hu
    rw [List.getElem?_eq_getElem hi] at hv hu
    cases hv;cases hu
    exact st.ev _
   ·rw [if_neg hi] at hv hu
    exact hcap _ v u hv hu
  have hlen : (c.args.toList.map (evalV F) ++ caps).length = (c.args.toList.map a.eval ++ us).length:=by simp [hl]
  obtain ⟨A1,fe1,he1,hp1,hin⟩:=marksAll_rel st.hp (c.args.toList.map (evalV F) ++ caps)
  obtain ⟨hfl,hff⟩:=fitsAll_get hfit
  have hspec:=spec.plain g _ x own false fn hm hg hx (c.args.toList.map a.eval ++ us) w A1 hp1.lt ⟨by rw [List.length_map];exact hfl,by rw [List.length_map];exact hlen,st.fr.gl.mono fe1,fun i t y u ht hy hu => by
   rw [List.getElem?_map] at hy
   cases hv : (c.args.toList.map (evalV F) ++ caps)[i]? with
   | none => rw [hv] at hy;cases hy
   | some v =>
    rw [hv] at hy;cases hy
    have hvr:=hargs i v u hv hu
    exact ⟨frz_rel st.hp fe1 hvr (fun id hid => hin v (List.mem_of_getElem? hv) id hid),fits_one (hff i t v ht hv).2 hvr⟩⟩
  refine upon_enter (run_enter ok ho hc hfc hg) hspec fun e w' he => ?_
  obtain ⟨v,rfl,A',rs,ys,obs,q1,q2,q3,q4,rfl,rfl,q5,q6,q7,q8⟩:=he
  refine ⟨_,rfl,?_⟩
  have gr : Grows w w':=⟨q4.os,q4.tape,q4.output,q4.size,fun k hk => q4.block k hk⟩
  have hp2:=hp1.grow gr q1.sub (fun b hb => by
   rcases q2 b hb with h1 | h1
   ·exact .inl h1
   ·exact .inr ⟨h1,q3 b hb⟩)
  have st2 : St L B0 G T w0 F ((c.args.toList.map (evalV F) ++ caps).foldl marks H) a w' A' β:=⟨st.fr.mono (fe1.trans q1) he1,hp2,st.below_grow gr⟩
  have h2:=resultsOf_eq q5 h
  obtain ⟨vs,H',β',r1,r2,r3,r4,r5⟩:=backK_rel (k:=fun vs H => k (packV vs) H) 0 nid _ ys rs _ β [] obs (by rw [q5];simp) q6 st2 (by
   intro b hb id k2 hk2 ha2 hl2
   have:=(hp1.blk id k2 hk2).block_lt hp1.lt (by intro e;subst e;cases ha2) b hl2
   have:=(q8 b hb).1
   omega) (fun b hb => ⟨.inl (Nat.le_trans st.hp.base (q8 b hb).1),(q8 b hb).2⟩) q7 h2
  exact hn _ _ _ _ _ _ (by simpa using r1) (pack_rel r4 r5) r2
theorem scal_any {x : FV} {c : Value} (hx : FR w A' x c) (h : fScal x = true) : FR w A x c ∧ c.oneCell' = true:=by
 unfold fScal at h
 split at h
 ·cases hx;exact ⟨.bool _,rfl⟩
 ·cases hx;exact ⟨.int _ _,rfl⟩
 ·cases hx;exact ⟨.str _,rfl⟩
 ·cases h
theorem lend_ok (ok : EnvOk P E) (spec : CallSpec P E call) {c : Call} {fo : Operand} {g : Nat} {fn : Func} {caps : List V} {x : FV} {k : V → Hp → R} (ho : o.op = .call c) (hc : c.callee = .value fo) (hfo : evalV F fo = .func g caps) (hm : E.mode g = .call [] true) (hg : E.fn g = some fn)
  (hfit : fitsAll E (pars E fn) (c.args.toList.map (evalV F) ++ caps) = true) (hx : call g ((c.args.toList.map (evalV F) ++ caps).map (frz H)) = some x) (h1 : fn.resultTypes.size = 1) (hsc : fScal x = true) (st : St L B0 G T w0 F H a w A β) (hn : Nxt L B0 G T w0 F a o next res k)
  (h : k (.f x) H = some res) : o.wp P a w next Q:=by
 have hfv:=hfo ▸ st.ev fo
 generalize hfc : a.eval fo = fc at hfv
 cases hfv with
 | func _ _ us hl hcap =>
  have hargs : ∀ (i : Nat) v u,(c.args.toList.map (evalV F) ++ caps)[i]? = some v → (c.args.toList.map a.eval ++ us)[i]? = some u → VR w A β H v u:=by
   intro i v u hv hu
   rw [List.getElem?_append] at hv hu
   simp only [List.length_map] at hv hu
   by_cases hi : i < c.args.toList.length
   ·rw [if_pos hi,List.getElem?_map] at hv hu
    rw [List.getElem?_eq_getElem hi] at hv hu
    cases hv;cases hu
    exact st.ev _
   ·rw [if_neg hi] at hv hu
    exact hcap _ v u hv hu
  have hlen : (c.args.toList.map (evalV F) ++ caps).length = (c.args.toList.map a.eval ++ us).length:=by simp [hl]
  obtain ⟨A1,fe1,he1,hp1,hin⟩:=marksAll_rel st.hp (c.args.toList.map (evalV F) ++ caps)
  obtain ⟨hfl,hff⟩:=fitsAll_get hfit
  have hspec:=spec.plain g _ x [] true fn hm hg hx (c.args.toList.map a.eval ++ us) w A1 hp1.lt ⟨by rw [List.length_map];exact hfl,by rw [List.length_map];exact hlen,st.fr.gl.mono fe1,fun i t y u ht hy hu => by
   rw [List.getElem?_map] at hy
   cases hv : (c.args.toList.map (evalV F) ++ caps)[i]? with
   | none => rw [hv] at hy;cases hy
   | some v =>
    rw [hv] at hy;cases hy
    have hvr:=hargs i v u hv hu
    exact ⟨frz_rel st.hp fe1 hvr (fun id hid => hin v (List.mem_of_getElem? hv) id hid),fits_one (hff i t v ht hv).2 hvr⟩⟩
  refine upon_enter (run_enter ok ho hc hfc hg) hspec fun e w' he => ?_
  obtain ⟨v,rfl,A',rs,ys,obs,q1,q2,q3,q4,rfl,rfl,q5,q6,q7,q8⟩:=he
  refine ⟨_,rfl,?_⟩
  have gr : Grows w w':=⟨q4.os,q4.tape,q4.output,q4.size,fun k hk => q4.block k hk⟩
  have hp2:=st.hp.grow gr (A':=A) (fun _ h => h) (fun b hb => .inl hb)
  have st2 : St L B0 G T w0 F H a w' A β:=⟨st.fr.mono (gr.fext st.hp.lt) (HExt.refl β H),hp2,st.below_grow gr⟩
  rw [h1] at q5
  match ys,q5 with
  | [y],_ =>
   have hts : ∃ t,fn.resultTypes.toList = [t]:=by
    have : fn.resultTypes.toList.length = 1:=by simpa using h1
    match hq : fn.resultTypes.toList,this with
    | [t],_ => exact ⟨t,rfl⟩
   obtain ⟨t,hts⟩:=hts
   rw [hts] at q6
   cases rs with
   | nil => exact q6.elim
   | cons r rs =>
    obtain ⟨o1,o2,_,r1,r2⟩:=q6
    have : rs = []:=by
     cases rs with
     | nil => rfl
     | cons _ _ => exact r2.elim
    subst this
    obtain ⟨r3,_,_⟩:=r1
    obtain ⟨r4,r5⟩:=scal_any (A:=A) r3 hsc
    exact hn _ _ _ _ _ _ h (.f _ _ r4 r5) st2
theorem fitsFs_get : ∀ {ts : List Nat} {xs : List FV},fitsFs E ts xs = true → ts.length = xs.length ∧ ∀ (i : Nat) t x,ts[i]? = some t → xs[i]? = some x → (E.ty t).known = true ∧ sameB (E.ty t).isAgg (isAggF x) = true
 | [],[],h => ⟨rfl,by simp⟩
 | [],x :: xs,h => by simp [fitsFs] at h
 | t :: ts,[],h => by simp [fitsFs] at h
 | t :: ts,x :: xs,h => by
  simp only [fitsFs,Bool.and_eq_true] at h
  obtain ⟨h1,h2⟩:=fitsFs_get h.2
  refine ⟨by simp [h1],fun i t' x' ht hx => ?_⟩
  cases i with
  | zero => cases ht;cases hx;exact h.1
  | succ i => exact h2 i t' x' ht hx
theorem sameB_eq {a b : Bool} (h : sameB a b = true) : a = b:=by cases a <;> cases b <;> first | rfl | cases h
theorem argOk_one {v : V} {c : Value} (h : argOk v = true) (hv : VR w A β H v c) (hn : isAggF (frz H v) = false) : c.oneCell' = true:=by
 unfold argOk at h
 by_cases h1 : isOne v = true
 ·exact hv.one h1
 ·simp [h1] at h
  unfold fitsV cellsV at h
  simp only at h
  split at h
  ·rename_i h2
   split at h2
   ·rename_i cs
    split at h2
    ·rename_i hall
     simp [frz,frzV,hall,isAggF] at hn
    ·cases h2
   ·cases h2
  ·cases h
theorem dyn_ok (ok : EnvOk P E) (spec : CallSpec P E call) {c : Call} {fo : Operand} {x y : FV} {k : V → Hp → R} (ho : o.op = .call c) (hc : c.callee = .value fo) (hfo : evalV F fo = .f x) (hargs : (c.args.toList.map (evalV F)).all (fun v => argOk v && liveV H v) = true)
  (hy : dynK E call (E.ty o.type).isAgg x ((c.args.toList.map (evalV F)).map (frz H)) = some y) (st : St L B0 G T w0 F H a w A β) (hn : Nxt L B0 G T w0 F a o next res k)
  (h : splitAs (E.ty o.type).isAgg (E.ty o.type).size y (fun v => k v ((c.args.toList.map (evalV F)).foldl marks H)) = some res) : o.wp P a w next Q:=by
 have hfv:=(hfo ▸ st.ev fo).f'.1
 generalize hfc : a.eval fo = fc at hfv
 unfold dynK at hy
 split at hy
 ·rename_i g caps
  split at hy
  ·rename_i fn hm hg
   split at hy
   ·rename_i t hts
    obtain ⟨hcond,hy⟩:=gB_some hy
    simp only [Bool.and_eq_true] at hcond
    obtain ⟨⟨hfit,htk⟩,hagg⟩:=hcond
    have hagg':=sameB_eq hagg
    cases hfv with
    | func _ _ us hl h1 hcap =>
     obtain ⟨A1,fe1,he1,hp1,hin⟩:=marksAll_rel st.hp (c.args.toList.map (evalV F))
     obtain ⟨hfl,hff⟩:=fitsFs_get hfit
     have hspec:=spec.plain g _ y [] false fn hm hg hy (c.args.toList.map a.eval ++ us) w A1 hp1.lt ⟨hfl,by simp [hl],st.fr.gl.mono fe1,fun i t y u ht hy hu => by
      have hf2:=(hff i t y ht hy).2
      rw [List.getElem?_append] at hy hu
      simp only [List.length_map] at hy hu
      by_cases hi : i < c.args.toList.length
      ·rw [if_pos hi,List.getElem?_map,List.getElem?_map] at hy
       rw [if_pos hi,List.getElem?_map] at hu
       rw [List.getElem?_eq_getElem hi] at hy hu
       cases hy;cases hu
       have hm2 : evalV F c.args.toList[i] ∈ c.args.toList.map (evalV F):=List.mem_map.2 ⟨_,List.getElem_mem hi,rfl⟩
       refine ⟨frz_rel st.hp fe1 (st.ev _) (hin _ hm2),fun hna => ?_⟩
       have ha:=List.all_eq_true.1 hargs _ hm2
       simp only [Bool.and_eq_true] at ha
       exact argOk_one ha.1 (st.ev _) (by rw [← sameB_eq hf2];exact hna)
      ·rw [if_neg hi] at hy hu
       exact ⟨(hcap _ y u hy hu).mono fe1,fun _ => h1 u (List.mem_of_getElem? hu)⟩⟩
     refine upon_enter (run_enter ok ho hc hfc hg) hspec fun e w' he => ?_
     obtain ⟨v,rfl,A',rs,ys,obs,q1,q2,q3,q4,rfl,rfl,q5,q6,q7,q8⟩:=he
     refine ⟨_,rfl,?_⟩
     have gr : Grows w w':=⟨q4.os,q4.tape,q4.output,q4.size,fun k hk => q4.block k hk⟩
     have hp2:=hp1.grow gr q1.sub (fun b hb => by
      rcases q2 b hb with h1 | h1
      ·exact .inl h1
      ·exact .inr ⟨h1,q3 b hb⟩)
     have st2 : St L B0 G T w0 F ((c.args.toList.map (evalV F)).foldl marks H) a w' A' β:=⟨st.fr.mono (fe1.trans q1) he1,hp2,st.below_grow gr⟩
     have hsz : fn.resultTypes.size = 1:=by
      have : fn.resultTypes.toList.length = 1:=by rw [hts];rfl
      simpa using this
     rw [hsz] at q5
     match ys,q5 with
     | [z],_ =>
      rw [hts] at q6
      cases rs with
      | nil => exact q6.elim
      | cons r rs =>
       obtain ⟨o1,o2,_,r1,r2⟩:=q6
       have : rs = []:=by
        cases rs with
        | nil => rfl
        | cons _ _ => exact r2.elim
       subst this
       obtain ⟨r3,r4,_⟩:=r1
       obtain ⟨v,hv,hk,_⟩:=splitAs_rel (β:=β) (H:=(c.args.toList.map (evalV F)).foldl marks H) r3 (fun hf => r4 (by rw [hagg'];exact hf)) h
       exact hn _ _ _ _ _ _ hk hv st2
   ·cases hy
  ·cases hy
 ·cases hy
end
end Go.Proofs.YtpffkpaiihcffaaGreatDoor.VM
