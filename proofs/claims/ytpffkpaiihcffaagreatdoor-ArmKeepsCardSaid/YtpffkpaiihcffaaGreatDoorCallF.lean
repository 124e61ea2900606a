/- Calls of the program's functions. -/
import Derived.Test.YtpffkpaiihcffaaGreatDoorFlow
set_option linter.unusedVariables false
set_option linter.unusedSimpArgs false
set_option linter.unusedSectionVars false
namespace Go.Proofs.YtpffkpaiihcffaaGreatDoor.VM
open Go Go.RowKit
section
variable {P : Program} {E : Env} {L : List (Fr × Act)} {B0 : Nat} {G T : Nat → Prop} {w0 w w' : World} {A A' : Nat → Prop} {β : LocOf} {H : Hp} {F : Fr} {a : Act} {res : FV} {call : Nat → List FV → Option FV} {inl : Inl}
theorem fillPack (vs : List Value) : (if h : vs.toArray.size = 1 then vs.toArray[0] else Value.tuple vs.toArray) = packVal vs:=by
 match vs with
 | [] => rfl
 | [v] => rfl
 | v1 :: v2 :: vs => simp [packVal]
def resOf (tmps : Array Value) : ResultVar → Sem Value
 | .tmp t => pure (tmps.getD t undef)
 | .cell c t => do loadVar t (← asAddr (tmps.getD c undef))
theorem resOf_tmp (tmps : Array Value) (t : Tmp) : (resOf tmps (.tmp t)).run P w = .ok (tmps.getD t undef) w:=by simp only [resOf,Sem.run_pure]
theorem load_as {t : TypeId} {cv u0 : Value} (h5 : (Instr.loadAt t cv).run P w = .ok u0 w) : (do loadVar t (← asAddr cv) : Sem Value).run P w = .ok u0 w:=by
 simp only [Instr.loadAt,Sem.run_bind] at h5
 cases cv with
 | pointer ad => cases ad with
  | none => simp [Instr.sureAddr,stuck] at h5
  | some ad => simpa [Instr.sureAddr,asAddr] using h5
 | _ => simp [Instr.sureAddr,stuck] at h5
theorem resV_rel (ok : EnvOk P E) (st : St L B0 G T w0 F H a w A β) : ∀ (rs : List ResultVar) (acc : List V) (k : List V → R),resV E F H rs acc k = some res →
  ∃ (vs : List V) (us : List Value),k (acc.reverse ++ vs) = some res ∧ vs.length = us.length ∧ (∀ (i : Nat) v u,vs[i]? = some v → us[i]? = some u → VR w A β H v u) ∧
   (List.mapM (resOf a.tmps) rs).run P w = .ok us w
 | [],acc,k,h => ⟨[],[],by simpa [resV] using h,rfl,by simp,by simp⟩
 | .tmp t :: rs,acc,k,h => by
  simp only [resV] at h
  obtain ⟨vs,us,h1,h2,h3,h4⟩:=resV_rel ok st rs _ k h
  refine ⟨getF F t :: vs,a.tmps.getD t undef :: us,by simpa using h1,by simp [h2],fun i v u hv hu => ?_,by simp only [List.mapM_cons,Sem.run_bind,resOf_tmp,Result.andThen,h4,Sem.run_pure]⟩
  cases i with
  | zero => cases hv;cases hu;exact getF_rel st.fr t
  | succ i => exact h3 i v u hv hu
 | .cell c t :: rs,acc,k,h => by
  simp only [resV] at h
  obtain ⟨u0,v0,h0,hv0,h⟩:=loadK_rel ok.ty (getF_rel st.fr c) st.hp h
  obtain ⟨vs,us,h1,h2,h3,h4⟩:=resV_rel ok st rs _ k h
  have hl : (resOf a.tmps (.cell c t)).run P w = .ok u0 w:=load_as h0
  refine ⟨v0 :: vs,u0 :: us,by simpa using h1,by simp [h2],fun i v u hv hu => ?_,?_⟩
  ·cases i with
   | zero => cases hv;cases hu;exact hv0
   | succ i => exact h3 i v u hv hu
  ·simp only [List.mapM_cons,Sem.run_bind,hl,Result.andThen,h4,Sem.run_pure]
theorem results_run {fn : Func} {us : List Value} (h : (List.mapM (resOf a.tmps) fn.results.toList).run P w = .ok us w) :
  (results fn a.tmps).run P w = .ok (packVal us) w:=by
 have e : (fun r : ResultVar => match r with | .tmp t => pure (a.tmps.getD t undef) | .cell c t => do loadVar t (← asAddr (a.tmps.getD c undef)) : ResultVar → Sem Value) = resOf a.tmps:=by
  funext r;cases r <;> rfl
 have h2 : (fn.results.mapM (resOf a.tmps)).run P w = .ok us.toArray w:=by
  rw [Array.mapM_eq_mapM_toList]
  simp [h]
 unfold results
 rw [Sem.run_bind]
 erw [h2]
 simp only [Result.andThen,Sem.run_pure]
 rw [fillPack]
theorem nodupB_nodup : ∀ {l : List Nat},nodupB l = true → l.Nodup
 | [],_ => List.nodup_nil
 | x :: l,h => by
  simp only [nodupB,Bool.and_eq_true,Bool.not_eq_true'] at h
  refine List.nodup_cons.2 ⟨fun hm => ?_,nodupB_nodup h.2⟩
  have:=h.1
  simp [hm] at this
theorem blocks_nodup {K : Hp} (hp : HRel B0 G T w A β K) : ∀ (ids : List Nat),ids.Nodup → (∀ id ∈ ids,∃ q r,K[id]? = some (Blk.own q r)) → (blocksOf β ids).Nodup ∧ ∀ b ∈ blocksOf β ids,∃ id ∈ ids,(β id).block = some b
 | [],_,_ => ⟨by simp [blocksOf],by simp [blocksOf]⟩
 | id :: ids,hn,ho => by
  obtain ⟨h1,h2⟩:=List.nodup_cons.1 hn
  obtain ⟨g1,g2⟩:=blocks_nodup hp ids h2 (fun i hi => ho i (List.mem_cons_of_mem _ hi))
  cases hb : (β id).block with
  | none =>
   have e : blocksOf β (id :: ids) = blocksOf β ids:=by simp [blocksOf,hb]
   rw [e]
   exact ⟨g1,fun b hb' => let ⟨i,hi,q⟩:=g2 b hb';⟨i,List.mem_cons_of_mem _ hi,q⟩⟩
  | some b =>
   have e : blocksOf β (id :: ids) = b :: blocksOf β ids:=by simp [blocksOf,hb]
   rw [e]
   refine ⟨List.nodup_cons.2 ⟨fun hm => ?_,g1⟩,fun b' hb' => ?_⟩
   ·obtain ⟨i,hi,q⟩:=g2 b hm
    obtain ⟨q1,r1,k1⟩:=ho id List.mem_cons_self
    obtain ⟨q2,r2,k2⟩:=ho i (List.mem_cons_of_mem _ hi)
    cases hl : β id with
    | no => rw [hl] at hb;cases hb
    | nil => rw [hl] at hb;cases hb
    | «at» b1 o1 s1 c1 =>
     cases hl2 : β i with
     | no => rw [hl2] at q;cases q
     | nil => rw [hl2] at q;cases q
     | «at» b2 o2 s2 c2 =>
      rw [hl] at hb;rw [hl2] at q
      cases hb;cases q
      have:=hp.inj id i b o1 s1 c1 o2 s2 c2 _ _ k1 k2 rfl rfl hl hl2
      exact h1 (this ▸ hi)
   ·rcases List.mem_cons.1 hb' with rfl | hb'
    ·exact ⟨id,List.mem_cons_self,hb⟩
    ·obtain ⟨i,hi,q⟩:=g2 b' hb';exact ⟨i,List.mem_cons_of_mem _ hi,q⟩
theorem outV_length {own : List (Nat × Nat × Nat)} : ∀ {i : Nat} {ts : List Nat} {vs : List V} {xs : List FV},outV E H own i ts vs = some xs → xs.length = ts.length
 | i,[],[],xs,h => by cases h;rfl
 | i,t :: ts,v :: vs,xs,h => by
  simp only [outV] at h
  split at h
  ·split at h
   ·rename_i xs' hxs
    cases h
    simp [outV_length hxs]
   ·cases h
  ·cases h
 | i,[],v :: vs,xs,h => by simp [outV] at h
 | i,t :: ts,[],xs,h => by simp [outV] at h
theorem backRows_rel {K : Hp} {A1 : Nat → Prop} {cs : List Value} (hp1 : HRel B0 G T w A1 β K) : ∀ (ls : List (Nat × Nat × Bool)) (n : Nat) (rs : List FV),backRows H n ls = some rs → (∀ id ∈ backIds n ls,K[id]? = H[id]?) → (∀ (j : Nat) q,ls[j]? = some q → ∃ c,cs[q.1]? = some c ∧ VR w A β H (.ref (n + j)) c) →
  BackR w A1 cs ls rs (blocksOf β (backIds n ls)) ∧ ∀ id ∈ backIds n ls,∃ q r,K[id]? = some (Blk.own q r)
 | [],n,rs,h,hK,hv => by
  simp only [backRows,Option.some.injEq] at h
  subst h
  exact ⟨⟨rfl,rfl⟩,by simp [backIds]⟩
 | q :: ls,n,rs,h,hK,hv => by
  unfold backRows at h
  unfold BackR
  unfold backIds at hK ⊢
  have hv' : ∀ (j : Nat) q',ls[j]? = some q' → ∃ c,cs[q'.1]? = some c ∧ VR w A β H (.ref (n + 1 + j)) c:=fun j q' hj => by
   obtain ⟨c,h1,h2⟩:=hv (j + 1) q' (by simpa using hj)
   exact ⟨c,h1,by rw [show n + 1 + j = n + (j + 1) by omega];exact h2⟩
  cases hq : q.2.2 with
  | false =>
   rw [hq] at h hK
   exact backRows_rel hp1 ls (n + 1) rs h hK hv'
  | true =>
   rw [hq] at h hK
   simp only at h hK ⊢
   split at h
   ·rename_i s r hn
    split at h
    ·rename_i hs
     have hs':=Nat.eq_of_beq_eq_true hs
     subst hs'
     split at h
     ·rename_i rs' hrs
      cases h
      obtain ⟨g1,g2⟩:=backRows_rel hp1 ls (n + 1) rs' hrs (fun id hid => hK id (List.mem_cons_of_mem _ hid)) hv'
      obtain ⟨c,h1,h2⟩:=hv 0 q rfl
      have hKn : K[n]? = some (Blk.own q.2.1 r):=by rw [hK n List.mem_cons_self];exact hn
      refine ⟨⟨r,rs',c,blocksOf β [n],blocksOf β (backIds (n + 1) ls),rfl,by rw [← blocksOf_append];rfl,h1,⟨r,rfl,?_⟩,g1⟩,fun id hid => ?_⟩
      ·simp only [Nat.add_zero] at h2
       cases h2 with
       | refDead _ _ hd => rw [hn] at hd;cases hd
       | refNil _ ad hb hr =>
        have : r = []:=by unfold rowsOf at hr;rw [hn] at hr;cases hr;rfl
        exact .inl ⟨ad,rfl,this,by simp [blocksOf,hb,Loc.block]⟩
       | refAt _ b o sz cap m hb rows hr hm =>
        have : rows = r:=by unfold rowsOf at hr;rw [hn] at hr;cases hr;rfl
        subst this;subst hm
        rcases hp1.blk n _ hKn with ⟨h0,_⟩ | ⟨b2,o2,cap2,h3,h4,h5,h6,h7,cc,ce,h8,h9⟩
        ·rw [hb] at h0;cases h0
        rw [hb] at h3;cases h3
        exact .inr ⟨b,o,cap,rfl,by simp [blocksOf,hb,Loc.block],h4,h5,h6,h7,cc,ce,h8,h9⟩
      ·rcases List.mem_cons.1 hid with rfl | hid
       ·exact ⟨_,_,hKn⟩
       ·exact g2 id hid
     ·cases h
    ·cases h
   ·cases h
theorem retK_sound (ok : EnvOk P E) {ls : List (Nat × Nat × Bool)} {own : List (Nat × Nat × Nat)} {fn : Func} {gb : List Nat} {cs : List Value} (hT : ∀ b,T b → b < w0.heap.size ∧ b ∉ gb) (h : retK E ls own fn F H = some res) (st : St L w0.heap.size (fun b => b ∈ gb) T w0 F H a w A β)
  (hW : ∀ (j : Nat) q,ls[j]? = some q → ∃ c,cs[q.1]? = some c ∧ VR w A β H (.ref j) c) :
  a.defers = [] ∧ ∃ v,(results fn a.tmps).run P w = .ok v w ∧ RetM E ls own fn w0 T gb cs res v w:=by
 unfold retK at h
 obtain ⟨vs,us,h1,h2,h3,h4⟩:=resV_rel ok st _ _ _ h
 simp only [List.reverse_nil,List.nil_append] at h1
 obtain ⟨hc,h1⟩:=gB_some h1
 simp only [Bool.and_eq_true] at hc
 split at h1
 ·rename_i xs hxs
  split at h1
  ·rename_i rs hrs
   cases h1
   obtain ⟨A1,fe1,he1,hp1,hin⟩:=marksL_rel (resIds E own 0 fn.resultTypes.toList vs).2 st.hp
   have hdis : ∀ id ∈ (resIds E own 0 fn.resultTypes.toList vs).1 ++ backIds 0 ls,id ∉ (resIds E own 0 fn.resultTypes.toList vs).2:=fun id hi hm => by
    have:=List.all_eq_true.1 hc.2 id hi
    simp [hm] at this
   obtain ⟨g1,g2⟩:=outV_rel st.hp fe1 hp1 he1 0 fn.resultTypes.toList vs us xs h2 h3 hxs hin (fun id hi => marks_keep id _ H (hdis id (List.mem_append_left _ hi)))
   obtain ⟨k1,k2⟩:=backRows_rel hp1 ls 0 rs hrs (fun id hi => marks_keep id _ H (hdis id (List.mem_append_right _ hi))) (fun j q hj => by
    obtain ⟨c,e1,e2⟩:=hW j q hj
    exact ⟨c,e1,by rw [Nat.zero_add];exact e2⟩)
   have g2' : ∀ id ∈ (resIds E own 0 fn.resultTypes.toList vs).1 ++ backIds 0 ls,∃ q r,((resIds E own 0 fn.resultTypes.toList vs).2.foldl markOne H)[id]? = some (Blk.own q r):=fun id hi => by
    rcases List.mem_append.1 hi with hi | hi
    ·exact g2 id hi
    ·exact k2 id hi
   obtain ⟨g3,g4⟩:=blocks_nodup hp1 _ (nodupB_nodup hc.1) g2'
   rw [blocksOf_append] at g3 g4
   refine ⟨st.fr.defers,packVal us,results_run h4,A1,us,xs,rs,_,_,⟨fun b hb => hp1.top b hb,fun b hb => st.below.block b (hT b hb).1 (hT b hb).2⟩,fun b hb => ?_,hp1.lt,st.below,rfl,rfl,by rw [outV_length hxs];simp,g1,k1,g3,fun b hb => ?_⟩
   ·by_cases hlt : b < w0.heap.size
    ·rcases hp1.low b hb hlt with h5 | h5
     ·exact .inl h5
     ·exact .inr (.inr h5)
    ·exact .inr (.inl (by omega))
   ·obtain ⟨id,hi,hbl⟩:=g4 b hb
    obtain ⟨q,r,hk⟩:=g2' id hi
    cases hl : β id with
    | no => rw [hl] at hbl;cases hbl
    | nil => rw [hl] at hbl;cases hbl
    | «at» b1 o1 s1 c1 =>
     rw [hl] at hbl;cases hbl
     exact hp1.ours id b o1 s1 c1 _ hk rfl hl
  ·cases h1
 ·cases h1
theorem splitAs_gen {agg : Bool} {n : Nat} {x : FV} {k : V → R} (h : splitAs agg n x k = some res) : ∃ v,k v = some res ∧ (∀ y,v = .f y → y = x) ∧ ∀ (w : World) (A : Nat → Prop) (β : LocOf) (H : Hp) (c : Value),FR w A x c → (agg = false → c.oneCell' = true) → VR w A β H v c:=by
 cases agg with
 | false => exact ⟨.f x,h,fun y e => by cases e;rfl,fun w A β H c hx h1 => .f _ _ hx (h1 rfl)⟩
 | true =>
  simp only [splitAs,splitAgg] at h
  obtain ⟨hl,h⟩:=gB_some h
  refine ⟨_,h,fun y e => (by cases e),fun w A β H c hx h1 => ?_⟩
  classical
  have : splitAs true n x (fun v => if v = .agg ((List.range n).map fun i => .f (fCell x i)) then some FV.undef else none) = some .undef:=by
   simp [splitAs,splitAgg,hl,gB]
  obtain ⟨v,hv,hk,_⟩:=splitAs_rel (β:=β) (H:=H) hx h1 this
  split at hk
  ·rename_i e;rw [e] at hv;exact hv
  ·cases hk
theorem argsK_gen {k : List V → R} : ∀ (ts : List Nat) (xs : List FV) (acc : List V),argsK E ts xs acc k = some res → ∃ vs,k (acc.reverse ++ vs) = some res ∧ vs.length = xs.length ∧ ts.length = xs.length ∧
  ∀ (i : Nat) t x v,ts[i]? = some t → xs[i]? = some x → vs[i]? = some v → (∀ y,v = .f y → y = x) ∧ ∀ (w : World) (A : Nat → Prop) (β : LocOf) (H : Hp) (c : Value),FR w A x c → ((E.ty t).isAgg = false → c.oneCell' = true) → VR w A β H v c
 | [],[],acc,h => ⟨[],by simpa [argsK] using h,rfl,rfl,by simp⟩
 | [],_ :: _,acc,h => by simp [argsK] at h
 | _ :: _,[],acc,h => by simp [argsK] at h
 | t :: ts,x :: xs,acc,h => by
  simp only [argsK] at h
  obtain ⟨v,h1,h2,h3⟩:=splitAs_gen h
  obtain ⟨vs,g1,g2,g3,g4⟩:=argsK_gen ts xs (v :: acc) h1
  refine ⟨v :: vs,by simpa using g1,by simp [g2],by simp [g3],fun i t' x' v' ht hx hv => ?_⟩
  cases i with
  | zero => cases ht;cases hx;cases hv;exact ⟨h2,h3⟩
  | succ i => exact g4 i t' x' v' (by simpa using ht) (by simpa using hx) (by simpa using hv)
def blank (ps : List Nat) (vs : List V) : List V:=vs.zipIdx.map fun p => match ps.contains p.2 with | true => .un | false => p.1
theorem blank_get (ps : List Nat) (vs : List V) (i : Nat) : (blank ps vs)[i]? = (vs[i]?).map fun v => match ps.contains i with | true => .un | false => v:=by
 unfold blank
 rw [List.getElem?_map,List.getElem?_zipIdx]
 cases vs[i]? with
 | none => rfl
 | some v => simp
theorem blank_len (ps : List Nat) (vs : List V) : (blank ps vs).length = vs.length:=by simp [blank]
theorem blank_set {ps : List Nat} {vs : List V} {j : Nat} {v : V} (hj : j < vs.length) (hn : j ∉ ps) : (blank (j :: ps) vs).set j v = blank ps (vs.set j v):=by
 apply List.ext_getElem?
 intro i
 rw [List.getElem?_set,blank_get,blank_get,List.getElem?_set,blank_len]
 by_cases e : j = i
 ·subst e
  simp [hj,hn]
 ·have hc : (j :: ps).contains i = ps.contains i:=by
   simp only [List.contains_cons]
   have : (i == j) = false:=by simpa using fun h => e h.symm
   simp [this]
  simp only [e,if_false,hc]
theorem padF_set {n j : Nat} {vs : List V} {v : V} (hj : j < vs.length) : (padF n vs).set j v = padF n (vs.set j v):=by
 unfold padF
 rw [List.set_append,if_pos hj,List.length_set]
theorem enter_rel {n : Nat} {xs : List FV} {cs : List Value} (htm : ∀ (i : Nat) c,cs[i]? = some c → a.tmps.getD i undef = c) : ∀ (ls : List (Nat × Nat × Bool)) (vs vs' : List V) (H H' : Hp) (β : LocOf) (gb : List Nat),enterV ls vs H = some (vs',H') → St [] B0 G T w0 (padF n (blank (ls.map fun q => q.1) vs)) H a w A β →
  MoveR w A xs cs ls gb → gb.Nodup → Fresh B0 G A gb → Unused β H gb → (ls.map fun q => q.1).Nodup → (∀ q ∈ ls,∀ y,vs[q.1]? = some (.f y) → xs[q.1]? = some y) →
  ∃ β',St [] B0 G T w0 (padF n vs') H' a w A β' ∧ HExt β H β' H' ∧ vs'.length = vs.length ∧ ∀ (j : Nat) q,ls[j]? = some q → ∃ c,cs[q.1]? = some c ∧ VR w A β' H' (.ref (H.length + j)) c
 | [],vs,vs',H,H',β,gb,h,st,hm,hnd,hf,hu,hps,hx => by
  simp only [enterV,Option.some.injEq,Prod.mk.injEq] at h
  obtain ⟨rfl,rfl⟩:=h
  have e : blank [] vs = vs:=by
   apply List.ext_getElem?
   intro i
   rw [blank_get]
   cases vs[i]? <;> simp
  simp only [List.map_nil,e] at st
  exact ⟨β,st,HExt.refl β H,rfl,by simp⟩
 | q :: ls,vs,vs',H,H',β,gb,h,st,hm,hnd,hf,hu,hps,hx => by
  obtain ⟨x,c,rows,o1,o2,rfl,m1,m2,m3,m4,m5⟩:=hm
  obtain ⟨n1,n2,n3⟩:=nodup_app hnd
  simp only [List.map_cons,List.nodup_cons] at hps
  obtain ⟨p1,p2⟩:=hps
  have key : ∀ (r : List (List FV)),r = rows → q.1 < vs.length → enterV ls (vs.set q.1 (.ref H.length)) (H ++ [.own q.2.1 r]) = some (vs',H') →
    ∃ β',St [] B0 G T w0 (padF n vs') H' a w A β' ∧ HExt β H β' H' ∧ vs'.length = vs.length ∧ ∀ (j : Nat) q',(q :: ls)[j]? = some q' → ∃ c,cs[q'.1]? = some c ∧ VR w A β' H' (.ref (H.length + j)) c:=by
   intro r hr hj h
   subst hr
   obtain ⟨he0,hp0⟩:=frees_rel st.hp 1
   have st0 : St [] B0 G T w0 (padF n (blank (q.1 :: ls.map fun q => q.1) vs)) (H ++ [.free]) a w A (locCut β H.length):=⟨st.fr.mono (FExt.refl w A) he0,hp0,st.below⟩
   have hlt : ∀ {i : Nat},i < H.length → locCut β H.length i = β i:=fun hi => by simp [locCut,hi]
   have hun : ∀ {obs : List Nat},Unused β H obs → Unused (locCut β H.length) (H ++ [.free]) obs:=by
    intro obs hq b hb i k hk ha
    rw [List.getElem?_append] at hk
    split at hk
    ·rename_i hi;rw [hlt hi];exact hq b hb i k hk ha
    ·have : k = .free:=by
      have h2:=(List.getElem?_eq_some_iff.1 hk).2
      simp at h2;exact h2.symm
     subst this;cases ha
   obtain ⟨β1,e1,st1,v1,k1⟩:=take_own (nid:=H.length) (s:=q.2.1) (r:=r) st0 (by simp) m4 (hun fun b hb => hu b (List.mem_append_left _ hb)) (fun b hb => hf b (List.mem_append_left _ hb))
   have hset : (H ++ [Blk.free]).set H.length (.own q.2.1 r) = H ++ [.own q.2.1 r]:=by simp
   rw [hset] at e1 st1 v1 k1
   have st2 : St [] B0 G T w0 (padF n (blank (ls.map fun q => q.1) (vs.set q.1 (.ref H.length)))) (H ++ [.own q.2.1 r]) a w A β1:=by
    rw [← blank_set hj p1,← padF_set (by rw [blank_len];exact hj)]
    exact st1.learn (by rw [htm _ _ m2];exact v1)
   obtain ⟨β',g1,g2,g3,g4⟩:=enter_rel htm ls _ vs' _ H' β1 o2 h st2 m5 n2 (fun b hb => hf b (List.mem_append_right _ hb)) (k1 o2 n3 (hun fun b hb => hu b (List.mem_append_right _ hb))) p2 (fun q' hq' y hy => by
    have hne : q.1 ≠ q'.1:=fun e => p1 (e ▸ List.mem_map.2 ⟨q',hq',rfl⟩)
    rw [List.getElem?_set,if_neg hne] at hy
    exact hx q' (by simp [hq']) y hy)
   have e0 : HExt β H β1 (H ++ [.own q.2.1 r]):=by
    refine ⟨fun id hl hne => ?_,by simp,fun id r' hr => .inl ⟨r',rowsOf_append hr _,rfl⟩,fun id hd => ?_⟩
    ·rw [e1.loc id (by simp;omega) (by rw [hlt hl];exact hne),hlt hl]
    ·rw [List.getElem?_append_left (List.getElem?_eq_some_iff.1 hd).1];exact hd
   refine ⟨β',g1,e0.trans g2,by rw [g3,List.length_set],fun j q' hj' => ?_⟩
   cases j with
   | zero => cases hj';exact ⟨c,m2,v1.mono (FExt.refl w A) g2⟩
   | succ j =>
    obtain ⟨c',h1,h2⟩:=g4 j q' (by simpa using hj')
    refine ⟨c',h1,?_⟩
    rw [show H.length + (j + 1) = (H ++ [Blk.own q.2.1 r]).length + j by simp;omega]
    exact h2
  simp only [enterV] at h
  split at h
  ·rename_i r hq
   have:=hx q (by simp) _ hq
   rw [m1] at this;cases this
   rcases m3 with m3 | ⟨m3,_⟩
   ·cases m3;exact key _ rfl (List.getElem?_eq_some_iff.1 hq).1 h
   ·cases m3
  ·rename_i hq
   have:=hx q (by simp) _ hq
   rw [m1] at this;cases this
   rcases m3 with m3 | ⟨_,m3⟩
   ·cases m3
   ·exact key _ m3.symm (List.getElem?_eq_some_iff.1 hq).1 h
  ·cases h
end
end Go.Proofs.YtpffkpaiihcffaaGreatDoor.VM
