/- Steps of the proof: Operations, continued: equality of aggregates, maps; Operations, continued: maps; Operations, continued: maps turned, iterators. -/
import Derived.Test.YtpffkpaiihcffaaGreatDoorOps9
import Derived.Laws.StructEq
import Derived.MapKept
set_option linter.unusedVariables false
set_option linter.unusedSimpArgs false
set_option linter.unusedSectionVars false
section
namespace Go.Proofs.YtpffkpaiihcffaaGreatDoor.VM
open Go Go.RowKit
section
variable {P : Program} {E : Env} {L : List (Fr × Act)} {B0 : Nat} {G T : Nat → Prop} {w0 w w' : World} {A : Nat → Prop} {β : LocOf} {H : Hp} {F : Fr} {a : Act} {o : Oper}
variable {next : Act → World → Prop} {Q : Exit → Act → World → Prop} {res : FV}
theorem bytes_beq (a b : ByteArray) : (a == b) = (a.data.toList == b.data.toList):=by rw [beq_toListBytes,toList_data,toList_data]
theorem scalar_run {t : TypeId} {s : SK} {x y : FV} {c d : Value} {b : Bool} (hs : ScalarTy P t s) (hx : FR w A x c) (hy : FR w A y d) (h : scalarEq s x y = some b) (n : Nat) : (Op.equalIn (n + 1) t c d).run P w = .ok b w:=by
 unfold scalarEq at h
 split at h
 ·cases h;cases hx;cases hy;simp only [ScalarTy] at hs;simp [Op.equalIn,run_underlying hs]
 ·split at h
  ·rename_i hk;subst hk;cases h;cases hx;cases hy
   obtain ⟨k,hs⟩:=hs
   simp [Op.equalIn,run_underlying hs]
  ·cases h
 ·cases h
  cases hx with
  | str s1 => cases hy with
   | str s2 => simp only [ScalarTy] at hs;simp [Op.equalIn,run_underlying hs,bytes_beq]
 ·cases h
theorem scalar_notAgg {t : TypeId} {s : SK} (hs : ScalarTy P t s) : (isAgg t).run P w = .ok false w:=by
 cases s with
 | bool => simp only [ScalarTy] at hs;simp [isAgg,run_underlying hs]
 | int => obtain ⟨k,hs⟩:=hs;simp [isAgg,run_underlying hs]
 | str => simp only [ScalarTy] at hs;simp [isAgg,run_underlying hs]
theorem cells_run (n : Nat) (us vs : Array Value) : ∀ (fs : List Field) (sk : List SK) (i : Nat) (xs ys : List FV) (b : Bool),fs.length = sk.length → (∀ (j : Nat) f s,fs[j]? = some f → sk[j]? = some s → f.offset = i + j ∧ f.name ≠ "_" ∧ ScalarTy P f.type s) →
  (∀ (j : Nat) x,xs[j]? = some x → ∃ u,us[i + j]? = some u ∧ FR w A x u) → (∀ (j : Nat) y,ys[j]? = some y → ∃ u,vs[i + j]? = some u ∧ FR w A y u) → cellsEq sk xs ys = some b →
  (Op.eqFields (n + 1) us vs fs).run P w = .ok b w
 | [],sk,i,xs,ys,b,hl,hf,hx,hy,h => by
  have : sk = []:=List.eq_nil_of_length_eq_zero (by simpa using hl.symm)
  subst this
  cases xs <;> cases ys <;> simp [cellsEq] at h
  subst h
  simp [Op.eqFields]
 | f :: fs,sk,i,xs,ys,b,hl,hf,hx,hy,h => by
  cases sk with
  | nil => simp at hl
  | cons s sk =>
   cases xs with
   | nil => simp [cellsEq] at h
   | cons x xs =>
    cases ys with
    | nil => simp [cellsEq] at h
    | cons y ys =>
     simp only [cellsEq] at h
     obtain ⟨b1,h1,h⟩:=bindO_some h
     obtain ⟨b2,h2,h⟩:=bindO_some h
     cases h
     obtain ⟨g1,g2,g3⟩:=hf 0 f s rfl rfl
     obtain ⟨u,q1,q2⟩:=hx 0 x rfl
     obtain ⟨v,q3,q4⟩:=hy 0 y rfl
     have ih:=cells_run n us vs fs sk (i + 1) xs ys b2 (by simpa using hl) (fun j f s hf1 hs1 => by
       have:=hf (j + 1) f s hf1 hs1
       exact ⟨by omega,this.2⟩) (fun j x hx1 => by
       obtain ⟨u,r1,r2⟩:=hx (j + 1) x hx1
       exact ⟨u,by rw [show i + 1 + j = i + (j + 1) by omega];exact r1,r2⟩) (fun j x hx1 => by
       obtain ⟨u,r1,r2⟩:=hy (j + 1) x hx1
       exact ⟨u,by rw [show i + 1 + j = i + (j + 1) by omega];exact r1,r2⟩) h2
     rw [Nat.add_zero] at g1 q1 q3
     have e1:=scalar_run g3 q2 q4 h1 n
     have e2:=scalar_notAgg (w:=w) g3
     unfold Op.eqFields
     rw [if_pos g2]
     simp only [Sem.run_bind,part,e2,Result.andThen,Bool.false_eq_true,if_false,g1,q1,q3,Sem.run_pure,e1]
     cases b1
     ·simp
     ·simp only [Bool.not_true,Bool.false_eq_true,if_false,Bool.true_and];exact ih
theorem keyEq_run {t : TypeId} {agg : Bool} {sk : List SK} {x y : FV} {c d : Value} {b : Bool} (hs : SkFact P t agg sk) (hx : FR w A x c) (hy : FR w A y d) (h : keyEq agg sk x y = some b) : (Op.equal t c d).run P w = .ok b w:=by
 unfold keyEq at h
 split at h
 ·split at h
  ·rename_i xs ys
   obtain ⟨fields,h1,h2,h3,h4,h5⟩:=hs
   cases hx with
   | agg _ us hl1 ho1 hx1 =>
    cases hy with
    | agg _ vs hl2 ho2 hx2 =>
     have hfields : P.fieldsOf t = fields:=by simp [Program.fieldsOf,h1]
     have:=run_equalIn_struct (P:=P) w 9999 t us.toArray vs.toArray (by rw [hfields];exact h1) h2
     unfold Op.equal
     rw [show Op.maxDepth = 9999 + 1 from rfl,this,hfields]
     exact cells_run 9998 us.toArray vs.toArray fields.toList sk 0 xs ys b h4 (fun j f s hf hs => by simpa using h5 j f s hf hs) (fun j x hx => by
      have hj : j < us.length:=by have:=(List.getElem?_eq_some_iff.1 hx).1;omega
      exact ⟨us[j],by simp [hj],hx1 j x _ hx (List.getElem?_eq_getElem hj)⟩) (fun j x hx => by
      have hj : j < vs.length:=by have:=(List.getElem?_eq_some_iff.1 hx).1;omega
      exact ⟨vs[j],by simp [hj],hx2 j x _ hx (List.getElem?_eq_getElem hj)⟩) h
  ·cases h
 ·split at h
  ·rename_i s
   obtain ⟨s',q1,q2⟩:=hs
   cases q1
   unfold Op.equal
   rw [show Op.maxDepth = 9999 + 1 from rfl]
   exact scalar_run q2 hx hy h 9999
  ·cases h
variable (hty : TyOk P E.ty)
theorem eqF_eq {x y : FV} (h : eqF x y = true) : x = y:=by
 unfold eqF at h
 split at h
 ·rfl
 ·rfl
 ·rename_i a b;cases a <;> cases b <;> first | rfl | cases h
 ·simp only [Bool.and_eq_true,decide_eq_true_eq] at h;rw [h.1,h.2]
 ·simp only [decide_eq_true_eq] at h;rw [h]
 ·cases h
theorem bothR_some {a b : R} {r : FV} (h : bothR a b = some r) : a = some r ∧ b = some r:=by
 unfold bothR at h
 split at h
 ·split at h
  ·obtain ⟨h1,h⟩:=gB_some h
   cases h
   exact ⟨rfl,by rw [eqF_eq h1]⟩
  ·cases h
 ·cases h
theorem onRows_some {rows : List (List FV)} {a b : R} {r : FV} (h : onRows rows a b = some r) : b = some r ∧ (rows = [] → a = some r):=by
 unfold onRows at h
 split at h
 ·exact ⟨(bothR_some h).2,fun _ => (bothR_some h).1⟩
 ·exact ⟨h,fun e => by cases e⟩
theorem nil_ok {neg : Bool} {k : V → Hp → R} {op : BinOp} {xt yt e : TypeId} {x y : Operand} (hty : TyOk P E.ty) (ho : o.op = .binOp op xt x y yt) (hy : isNilO y = true) (ht : (E.ty xt).k = .slice e) (hop : op = match neg with | true => .neq | false => .eql)
  (st : St L B0 G T w0 F H a w A β) (hn : Nxt L B0 G T w0 F a o next res k) (h : nilK (evalV F x) H (k (.f (.bool (!neg))) H) (k (.f (.bool neg)) H) = some res) : o.wp P a w next Q:=by
 have hu : P.underlying xt = some (.slice e):=by have:=(hty xt).k;rw [ht] at this;exact this.1
 have hye : a.eval y = .slice none 0 0:=by
  unfold isNilO at hy
  split at hy
  ·rfl
  ·cases hy
 have hv:=st.ev x
 have key : ∃ ad n cap,a.eval x = .slice ad n cap ∧ k (.f (.bool (match ad.isNone with | true => !neg | false => neg))) H = some res:=by
  generalize evalV F x = v at h hv
  generalize a.eval x = c at hv
  cases v with
  | f y =>
   obtain ⟨hv,_⟩:=hv.f'
   simp only [nilK] at h
   cases hv with
   | nilS ad =>
    simp only [onFV] at h
    obtain ⟨h1,h2⟩:=bothR_some h
    cases ad with
    | none => exact ⟨_,0,0,rfl,h1⟩
    | some ad => exact ⟨_,0,0,rfl,h2⟩
   | arrNil ad cap =>
    simp only [onFV] at h
    obtain ⟨h1,h2⟩:=onRows_some h
    cases ad with
    | none => exact ⟨_,0,cap,rfl,h2 rfl⟩
    | some ad => exact ⟨_,0,cap,rfl,h1⟩
   | arr rows ad cap s u hs hc hr hA hm h1 hx =>
    simp only [onFV] at h
    exact ⟨some ad,_,cap,rfl,(onRows_some h).1⟩
   | _ => cases h
  | ref id =>
   simp only [nilK] at h
   split at h
   ·rename_i r hr
    cases hv with
    | refNil _ ad hb hr2 =>
     rw [hr] at hr2
     cases hr2
     obtain ⟨h1,h2⟩:=onRows_some h
     cases ad with
     | none => exact ⟨_,0,0,rfl,h2 rfl⟩
     | some ad => exact ⟨_,0,0,rfl,h1⟩
    | refAt _ b o' s cap n hb rows hr2 hn2 => exact ⟨some _,n,cap,rfl,(onRows_some h).1⟩
    | refDead _ _ hd => unfold rowsOf at hr;rw [hd] at hr;cases hr
   ·cases h
  | _ => cases h
 obtain ⟨ad,n,cap,hc,hk⟩:=key
 refine wp_val st hn hk (.f _ _ (.bool _) rfl) ?_
 have hrun : (Op.equal xt (.slice ad n cap) (.slice none 0 0)).run P w = .ok ad.isNone w:=by
  have : ∀ d,(Op.equalIn (d + 1) xt (.slice ad n cap) (.slice none 0 0)).run P w = .ok ad.isNone w:=fun d => by
   cases ad <;> simp [Op.equalIn,run_underlying hu]
  simp only [Op.equal,Op.maxDepth,this]
 cases neg <;> subst hop <;> (simp only [execOp,ho,hc,hye,eqGuard,binOp];simp [hrun];cases ad <;> rfl)
theorem aggBin_ok {k : V → Hp → R} {op : BinOp} {xt yt : TypeId} {x y : Operand} {p q : List V} {z : FV} (hty : TyOk P E.ty) (ho : o.op = .binOp op xt x y yt) (hx : evalV F x = .agg p) (hy : evalV F y = .agg q) (hz : fAggBin (E.ty xt).sk op (p.map (frzC H)) (q.map (frzC H)) = some z) (hagg : (E.ty xt).isAgg = true)
  (st : St L B0 G T w0 F H a w A β) (hn : Nxt L B0 G T w0 F a o next res k) (h : k (.f z) H = some res) : o.wp P a w next Q:=by
 have hxv:=hx ▸ st.ev x
 have hyv:=hy ▸ st.ev y
 generalize hc : a.eval x = c at hxv
 generalize hd : a.eval y = d at hyv
 obtain ⟨A1,fe1,_,_,hin⟩:=marks_rel st.hp (.agg (p ++ q))
 cases hxv with
 | agg _ us hl1 hx1 =>
  cases hyv with
  | agg _ vs hl2 hx2 =>
   have key : ∀ b,cellsEq (E.ty xt).sk (p.map (frzC H)) (q.map (frzC H)) = some b → (E.ty xt).sk ≠ [] → (Op.equalIn 10000 xt (.agg us.toArray) (.agg vs.toArray)).run P w = .ok b w ∧ P.eqGuardType P.depth xt = false:=by
    intro b hb hne
    have hs:=(hty xt).sk hne
    rw [hagg] at hs
    obtain ⟨fields,h1,h2,h3,h4,h5⟩:=hs
    have hfields : P.fieldsOf xt = fields:=by simp [Program.fieldsOf,h1]
    have:=run_equalIn_struct (P:=P) w 9999 xt us.toArray vs.toArray (by rw [hfields];exact h1) h2
    rw [hfields] at this
    refine ⟨this.trans (cells_run (A:=A1) 9998 us.toArray vs.toArray fields.toList _ 0 _ _ b h4 (fun j f s hf hs => by simpa using h5 j f s hf hs) (fun j x hx => ?_) (fun j x hx => ?_) hb),h3⟩
    ·rw [List.getElem?_map] at hx
     cases hv : p[j]? with
     | none => rw [hv] at hx;cases hx
     | some v =>
      rw [hv] at hx;cases hx
      have hj : j < us.length:=by have:=(List.getElem?_eq_some_iff.1 hv).1;omega
      exact ⟨us[j],by simp [hj],frzC_rel st.hp fe1 (hx1 j v _ hv (List.getElem?_eq_getElem hj)) fun i hi => hin i (List.mem_flatMap.2 ⟨v,List.mem_append_left _ (List.mem_of_getElem? hv),hi⟩)⟩
    ·rw [List.getElem?_map] at hx
     cases hv : q[j]? with
     | none => rw [hv] at hx;cases hx
     | some v =>
      rw [hv] at hx;cases hx
      have hj : j < vs.length:=by have:=(List.getElem?_eq_some_iff.1 hv).1;omega
      exact ⟨vs[j],by simp [hj],frzC_rel st.hp fe1 (hx2 j v _ hv (List.getElem?_eq_getElem hj)) fun i hi => hin i (List.mem_flatMap.2 ⟨v,List.mem_append_right _ (List.mem_of_getElem? hv),hi⟩)⟩
   unfold fAggBin at hz
   split at hz
   ·rename_i s0 ss hsk
    obtain ⟨b,h1,h2⟩:=bindO_some hz
    cases h2
    obtain ⟨g1,g2⟩:=key b h1 (by rw [hsk];simp)
    refine wp_val st hn h (u:=.bool b) (.f _ _ (.bool b) rfl) ?_
    simp only [execOp,ho,hc,hd,Sem.run_bind,run_eqGuard_agg w .eql xt x y _ _ g2,Result.andThen_ok,run_eql_struct w,g1]
    rfl
   ·rename_i s0 ss hsk
    obtain ⟨b,h1,h2⟩:=bindO_some hz
    cases h2
    obtain ⟨g1,g2⟩:=key b h1 (by rw [hsk];simp)
    refine wp_val st hn h (u:=.bool !b) (.f _ _ (.bool _) rfl) ?_
    simp only [execOp,ho,hc,hd,Sem.run_bind,run_eqGuard_agg w .neq xt x y _ _ g2,Result.andThen_ok,run_neq_struct w,g1]
    rfl
   ·cases hz
end
end Go.Proofs.YtpffkpaiihcffaaGreatDoor.VM
end
section
namespace Go.Proofs.YtpffkpaiihcffaaGreatDoor.VM
open Go Go.RowKit
section
variable {P : Program} {E : Env} {L : List (Fr × Act)} {B0 : Nat} {G T : Nat → Prop} {w0 w w' : World} {A : Nat → Prop} {β : LocOf} {H : Hp} {F : Fr} {a : Act} {o : Oper}
variable {next : Act → World → Prop} {Q : Exit → Act → World → Prop} {res : FV}
def mIdx (agg : Bool) (sk : List SK) : List (FV × FV) → FV → Option (Option Nat)
 | [],_ => some none
 | e :: es,k => bindO (keyEq agg sk k e.1) fun t => match t with | true => some (some 0) | false => bindO (mIdx agg sk es k) fun r => some (r.map (· + 1))
theorem mFind_idx {agg : Bool} {sk : List SK} {k : FV} : ∀ {es : List (FV × FV)} {q : Option FV},mFind agg sk es k = some q → ∃ r,mIdx agg sk es k = some r ∧ ((r = none ∧ q = none) ∨ ∃ i e,r = some i ∧ es[i]? = some e ∧ q = some e.2)
 | [],q,h => by cases h;exact ⟨none,rfl,.inl ⟨rfl,rfl⟩⟩
 | e :: es,q,h => by
  simp only [mFind] at h
  obtain ⟨t,h1,h⟩:=bindO_some h
  cases t with
  | true => cases h;exact ⟨some 0,by simp [mIdx,h1,bindO],.inr ⟨0,e,rfl,rfl,rfl⟩⟩
  | false =>
   obtain ⟨r,h2,h3⟩:=mFind_idx h
   refine ⟨r.map (· + 1),by simp [mIdx,h1,h2,bindO],?_⟩
   rcases h3 with ⟨rfl,rfl⟩ | ⟨i,e',rfl,h4,rfl⟩
   ·exact .inl ⟨rfl,rfl⟩
   ·exact .inr ⟨i + 1,e',rfl,h4,rfl⟩
theorem mPut_idx {agg : Bool} {sk : List SK} {k v : FV} : ∀ {es es2 : List (FV × FV)},mPut agg sk es k v = some es2 → ∃ r,mIdx agg sk es k = some r ∧ ((r = none ∧ es2 = es ++ [(k,v)]) ∨ ∃ i,r = some i ∧ i < es.length ∧ es2 = es.set i (k,v))
 | [],es2,h => by cases h;exact ⟨none,rfl,.inl ⟨rfl,rfl⟩⟩
 | e :: es,es2,h => by
  simp only [mPut] at h
  obtain ⟨t,h1,h⟩:=bindO_some h
  cases t with
  | true => cases h;exact ⟨some 0,by simp [mIdx,h1,bindO],.inr ⟨0,rfl,by simp,rfl⟩⟩
  | false =>
   obtain ⟨es3,hh,h0⟩:=bindO_some h
   cases h0
   obtain ⟨r,h2,h3⟩:=mPut_idx hh
   refine ⟨r.map (· + 1),by simp [mIdx,h1,h2,bindO],?_⟩
   rcases h3 with ⟨rfl,rfl⟩ | ⟨i,rfl,h4,rfl⟩
   ·exact .inl ⟨rfl,rfl⟩
   ·exact .inr ⟨i + 1,rfl,by simpa using h4,rfl⟩
theorem EntriesR.tail {p : FV × FV} {es : List (FV × FV)} {e : MapEntry} {es' : List MapEntry} (h : EntriesR w A (p :: es) (e :: es')) : FR w A p.1 e.key ∧ FR w A p.2 e.val ∧ EntriesR w A es es':=by
 obtain ⟨h1,h2⟩:=h
 obtain ⟨g1,g2⟩:=h2 0 p e rfl rfl
 exact ⟨g1,g2,by simpa using h1,fun i p e hp he => h2 (i + 1) p e hp he⟩
def Found (agg : Bool) (sk : List SK) (k : FV) (es : List (FV × FV)) (es' : List MapEntry) (n : Nat) (r : Option Nat) (r' : Option (Nat × Value)) : Prop :=
 (r = none ∧ r' = none) ∨ ∃ i p e,r = some i ∧ es[i]? = some p ∧ es'[i]? = some e ∧ r' = some (n + i,e.val) ∧ keyEq agg sk k p.1 = some true
theorem sameNow_scalar {t : TypeId} {d : TypeDesc} {s : SK} {x y : FV} {c e : Value} {b : Bool} (hd : P.underlying t = some d) (hs : ScalarTy P t s) (hx : FR w A x c) (hy : FR w A y e) (h : scalarEq s x y = some b) : Instr.sameNow d c e = some b:=by
 unfold scalarEq at h
 split at h
 ·cases h;cases hx;cases hy;simp only [ScalarTy] at hs;rw [hd] at hs;cases hs;rfl
 ·split at h
  ·rename_i hk;subst hk;cases h;cases hx;cases hy
   obtain ⟨k,hs⟩:=hs
   rw [hd] at hs;cases hs
   simp [Instr.sameNow]
  ·cases h
 ·cases h
  cases hx with
  | str s1 => cases hy with
   | str s2 => simp only [ScalarTy] at hs;rw [hd] at hs;cases hs;simp [Instr.sameNow,bytes_beq]
 ·cases h
theorem findNow_rel {t : TypeId} {d : TypeDesc} {s : SK} {k : FV} {c : Value} (hd : P.underlying t = some d) (hs : ScalarTy P t s) (hk : FR w A k c) : ∀ (es : List (FV × FV)) (es' : List MapEntry) (n : Nat) (r : Option Nat),EntriesR w A es es' → mIdx false [s] es k = some r →
  ∃ r',Instr.findNow d c es' n = some r' ∧ Found false [s] k es es' n r r'
 | [],es',n,r,he,h => by
  cases h
  have : es' = []:=List.eq_nil_of_length_eq_zero (by simpa using he.1.symm)
  subst this
  exact ⟨none,rfl,.inl ⟨rfl,rfl⟩⟩
 | p :: es,es',n,r,he,h => by
  cases es' with
  | nil => have:=he.1;simp at this
  | cons e es' =>
   obtain ⟨g1,g2,g3⟩:=he.tail
   simp only [mIdx] at h
   obtain ⟨b,h1,h⟩:=bindO_some h
   have h1' : scalarEq s k p.1 = some b:=by simpa [keyEq] using h1
   have h2:=sameNow_scalar hd hs hk g1 h1'
   cases b with
   | true => cases h;exact ⟨some (n,e.val),by simp [Instr.findNow,h2],.inr ⟨0,p,e,rfl,rfl,rfl,rfl,h1⟩⟩
   | false =>
    obtain ⟨r0,h3,h4⟩:=bindO_some h
    cases h4
    obtain ⟨r',h5,h6⟩:=findNow_rel hd hs hk es es' (n + 1) r0 g3 h3
    refine ⟨r',by simp [Instr.findNow,h2,h5],?_⟩
    rcases h6 with ⟨rfl,rfl⟩ | ⟨i,p',e',rfl,q1,q2,rfl,q3⟩
    ·exact .inl ⟨rfl,rfl⟩
    ·exact .inr ⟨i + 1,p',e',rfl,q1,q2,by congr 2;omega,q3⟩
theorem findAsking_rel {t : TypeId} {agg : Bool} {sk : List SK} {k : FV} {c : Value} (hs : SkFact P t agg sk) (hk : FR w A k c) : ∀ (es : List (FV × FV)) (es' : List MapEntry) (n : Nat) (r : Option Nat),EntriesR w A es es' → mIdx agg sk es k = some r →
  ∃ r',(Instr.findAsking t c es' n).run P w = .ok r' w ∧ Found agg sk k es es' n r r'
 | [],es',n,r,he,h => by
  cases h
  have : es' = []:=List.eq_nil_of_length_eq_zero (by simpa using he.1.symm)
  subst this
  exact ⟨none,by simp [Instr.findAsking],.inl ⟨rfl,rfl⟩⟩
 | p :: es,es',n,r,he,h => by
  cases es' with
  | nil => have:=he.1;simp at this
  | cons e es' =>
   obtain ⟨g1,g2,g3⟩:=he.tail
   simp only [mIdx] at h
   obtain ⟨b,h1,h⟩:=bindO_some h
   have h2:=keyEq_run (w:=w) hs hk g1 h1
   cases b with
   | true => cases h;exact ⟨some (n,e.val),by simp [Instr.findAsking,h2],.inr ⟨0,p,e,rfl,rfl,rfl,rfl,h1⟩⟩
   | false =>
    obtain ⟨r0,h3,h4⟩:=bindO_some h
    cases h4
    obtain ⟨r',h5,h6⟩:=findAsking_rel hs hk es es' (n + 1) r0 g3 h3
    refine ⟨r',by simp [Instr.findAsking,h2,h5],?_⟩
    rcases h6 with ⟨rfl,rfl⟩ | ⟨i,p',e',rfl,q1,q2,rfl,q3⟩
    ·exact .inl ⟨rfl,rfl⟩
    ·exact .inr ⟨i + 1,p',e',rfl,q1,q2,by congr 2;omega,q3⟩
theorem findKey_rel {t : TypeId} {agg : Bool} {sk : List SK} {k : FV} {c : Value} {es : List (FV × FV)} {es' : List MapEntry} {r : Option Nat} (hs : SkFact P t agg sk) (hk : FR w A k c) (he : EntriesR w A es es') (h : mIdx agg sk es k = some r) :
  ∃ r',(Instr.findKey t c es').run P w = .ok r' w ∧ Found agg sk k es es' 0 r r':=by
 cases agg with
 | true =>
  have hs':=hs
  obtain ⟨fields,h1,_⟩:=hs'
  obtain ⟨r',h2,h3⟩:=findAsking_rel (w:=w) hs hk es es' 0 r he h
  refine ⟨r',?_,h3⟩
  cases es' with
  | nil =>
   have : es = []:=List.eq_nil_of_length_eq_zero (by simpa using he.1)
   subst this
   rcases h3 with ⟨_,rfl⟩ | ⟨i,p,e,_,q,_⟩
   ·simp [Instr.findKey,run_underlying h1,Instr.findNow]
   ·simp at q
  | cons e es' => simp [Instr.findKey,run_underlying h1,Instr.findNow,Instr.sameNow,h2]
 | false =>
  obtain ⟨s,rfl,hs1⟩:=hs
  obtain ⟨d,hd⟩ : ∃ d,P.underlying t = some d:=by
   cases s with
   | bool => exact ⟨_,hs1⟩
   | int => obtain ⟨k,hs1⟩:=hs1;exact ⟨_,hs1⟩
   | str => exact ⟨_,hs1⟩
  obtain ⟨r',h2,h3⟩:=findNow_rel (w:=w) hd hs1 hk es es' 0 r he h
  exact ⟨r',by simp [Instr.findKey,run_underlying hd,h2],h3⟩
theorem scalar_check {t : TypeId} {s : SK} {x : FV} {c : Value} {em : Bool} (hs : ScalarTy P t s) (hx : FR w A x c) (h : scalOk s x = true) (n : Nat) : (Instr.checkKey em (n + 1) t c).run P w = .ok () w:=by
 unfold scalOk at h
 split at h
 ·cases hx;simp only [ScalarTy] at hs;simp [Instr.checkKey,run_underlying hs]
 ·cases hx;obtain ⟨k,hs⟩:=hs;simp [Instr.checkKey,run_underlying hs]
 ·cases hx;simp only [ScalarTy] at hs;simp [Instr.checkKey,run_underlying hs]
 ·cases h
theorem fields_check {em : Bool} (n : Nat) (us : Array Value) : ∀ (fs : List Field) (sk : List SK) (i : Nat) (xs : List FV),fs.length = sk.length → (∀ (j : Nat) f s,fs[j]? = some f → sk[j]? = some s → f.offset = i + j ∧ f.name ≠ "_" ∧ ScalarTy P f.type s) →
  (∀ (j : Nat) x,xs[j]? = some x → ∃ u,us[i + j]? = some u ∧ FR w A x u) → cellsOk sk xs = true →
  (forIn fs PUnit.unit (fun (f : Field) (_ : PUnit) => if f.name ≠ "_" then do let p ← part f.type us f.offset;Instr.checkKey em (n + 1) f.type p;pure (ForInStep.yield PUnit.unit) else pure (ForInStep.yield PUnit.unit)) : Sem PUnit).run P w = .ok PUnit.unit w
 | [],sk,i,xs,hl,hf,hx,h => by simp
 | f :: fs,sk,i,xs,hl,hf,hx,h => by
  cases sk with
  | nil => simp at hl
  | cons s sk =>
   cases xs with
   | nil => simp [cellsOk] at h
   | cons x xs =>
    simp only [cellsOk,Bool.and_eq_true] at h
    obtain ⟨g1,g2,g3⟩:=hf 0 f s rfl rfl
    obtain ⟨u,q1,q2⟩:=hx 0 x rfl
    rw [Nat.add_zero] at g1 q1
    have ih:=fields_check (em:=em) n us fs sk (i + 1) xs (by simpa using hl) (fun j f s hf1 hs1 => by
     have:=hf (j + 1) f s hf1 hs1
     exact ⟨by omega,this.2⟩) (fun j x hx1 => by
     obtain ⟨u,r1,r2⟩:=hx (j + 1) x hx1
     exact ⟨u,by rw [show i + 1 + j = i + (j + 1) by omega];exact r1,r2⟩) h.2
    have e1:=scalar_check (em:=em) g3 q2 h.1 n
    have e2:=scalar_notAgg (w:=w) g3
    rw [List.forIn_cons,if_pos g2]
    simp only [Sem.run_bind,part,e2,Result.andThen,Bool.false_eq_true,if_false,g1,q1,Sem.run_pure,e1]
    exact ih
theorem checkKey_rel {t : TypeId} {agg : Bool} {sk : List SK} {k : FV} {c : Value} {em : Bool} (hs : SkFact P t agg sk) (hk : FR w A k c) (h : keyOk agg sk k = true) : (Instr.checkKey em 10000 t c).run P w = .ok () w:=by
 unfold keyOk at h
 split at h
 ·split at h
  ·rename_i s0 ss xs
   obtain ⟨fields,h1,h2,h3,h4,h5⟩:=hs
   cases hk with
   | agg _ us hl1 ho1 hx1 =>
    have:=fields_check (P:=P) (w:=w) (A:=A) (em:=em) 9998 us.toArray fields.toList (s0 :: ss) 0 xs h4 (fun j f s hf hs => by simpa using h5 j f s hf hs) (fun j x hx => by
      have hj : j < us.length:=by have:=(List.getElem?_eq_some_iff.1 hx).1;omega
      exact ⟨us[j],by simp [hj],hx1 j x _ hx (List.getElem?_eq_getElem hj)⟩) h
    rw [show (10000 : Nat) = 9999 + 1 from rfl]
    unfold Instr.checkKey
    simp only [Sem.run_bind,run_underlying h1,Result.andThen]
    rw [← Array.forIn_toList]
    rw [show (9998 + 1 : Nat) = 9999 from rfl] at this
    rw [this]
    rfl
  ·cases h
 ·split at h
  ·rename_i s
   obtain ⟨s',q1,q2⟩:=hs
   cases q1
   exact scalar_check q2 hk h 9999
  ·cases h
theorem scalar_same {s : SK} {x y : FV} {c d : Value} (hx : FR w A x c) (hy : FR w A y d) (h : scalarEq s x y = some true) (n : Nat) : Instr.sameBits n d c = true:=by
 unfold scalarEq at h
 split at h
 ·rename_i b1 b2;cases hx;cases hy;simp at h;subst h;simp [Instr.sameBits]
 ·split at h
  ·rename_i hk;subst hk;cases hx;cases hy;simp at h;subst h;simp [Instr.sameBits]
  ·cases h
 ·cases hx with
  | str s1 => cases hy with
   | str s2 =>
    simp only [Option.some.injEq] at h
    simp only [Instr.sameBits]
    rw [bytes_beq]
    have:=eq_of_beq h
    rw [this];simp
 ·cases h
theorem cells_same (n : Nat) : ∀ (sk : List SK) (xs ys : List FV) (us vs : List Value),xs.length = us.length → ys.length = vs.length → (∀ (k : Nat) x c,xs[k]? = some x → us[k]? = some c → FR w A x c) → (∀ (k : Nat) x c,ys[k]? = some x → vs[k]? = some c → FR w A x c) → cellsEq sk xs ys = some true →
  us.length = vs.length ∧ (vs.zip us).all (fun p => Instr.sameBits n p.1 p.2) = true
 | [],xs,ys,us,vs,h1,h2,h3,h4,h => by
  cases xs <;> cases ys <;> simp [cellsEq] at h
  cases us <;> cases vs <;> simp at h1 h2
  simp
 | s :: sk,xs,ys,us,vs,h1,h2,h3,h4,h => by
  cases xs with
  | nil => simp [cellsEq] at h
  | cons x xs =>
   cases ys with
   | nil => simp [cellsEq] at h
   | cons y ys =>
    cases us with
    | nil => simp at h1
    | cons u us =>
     cases vs with
     | nil => simp at h2
     | cons v vs =>
      simp only [cellsEq] at h
      obtain ⟨b1,g1,h⟩:=bindO_some h
      obtain ⟨b2,g2,h⟩:=bindO_some h
      simp at h
      obtain ⟨rfl,rfl⟩:=h
      obtain ⟨q1,q2⟩:=cells_same n sk xs ys us vs (by simpa using h1) (by simpa using h2) (fun k x c hx hc => h3 (k + 1) x c hx hc) (fun k x c hx hc => h4 (k + 1) x c hx hc) g2
      have q3:=scalar_same (h3 0 x u rfl rfl) (h4 0 y v rfl rfl) g1 n
      refine ⟨by simp [q1],?_⟩
      simp only [List.zip_cons_cons,List.all_cons,q3,Bool.true_and]
      exact q2
theorem keyEq_same {agg : Bool} {sk : List SK} {x y : FV} {c d : Value} (hx : FR w A x c) (hy : FR w A y d) (h : keyEq agg sk x y = some true) : Instr.sameBits 10000 d c = true:=by
 unfold keyEq at h
 split at h
 ·split at h
  ·cases hx with
   | agg _ us hl1 ho1 hx1 =>
    cases hy with
    | agg _ vs hl2 ho2 hx2 =>
     obtain ⟨q1,q2⟩:=cells_same 9999 sk _ _ us vs hl1 hl2 hx1 hx2 h
     rw [show (10000 : Nat) = 9999 + 1 from rfl]
     simp only [Instr.sameBits,List.size_toArray,Bool.and_eq_true]
     exact ⟨by simp [q1],q2⟩
  ·cases h
 ·split at h
  ·exact scalar_same hx hy h 10000
  ·cases h
theorem keyOk_ne {agg : Bool} {sk : List SK} {k : FV} (h : keyOk agg sk k = true) : sk ≠ []:=by
 unfold keyOk at h
 split at h
 ·split at h
  ·simp
  ·cases h
 ·split at h
  ·simp
  ·cases h
theorem splitAs_rel {agg : Bool} {n : Nat} {x : FV} {c : Value} {k : V → R} (hx : FR w A x c) (h1 : agg = false → c.oneCell' = true) (h : splitAs agg n x k = some res) : ∃ v,VR w A β H v c ∧ k v = some res ∧ (agg = true → ∃ cs,v = .agg cs ∧ cs.length = n) ∧ (agg = false → v = .f x) ∧ fitsV agg v = true:=by
 unfold splitAs at h
 split at h
 ·unfold splitAgg at h
  replace h:=gB_some h
  obtain ⟨hl,h⟩:=h
  unfold fIsAgg at hl
  split at hl
  ·rename_i cs
   have hn : cs.length = n:=by simpa using hl
   subst hn
   cases hx with
   | agg _ us hl1 ho1 hx1 =>
    refine ⟨_,.agg _ us (by simpa using hl1) (fun j y u hy hu => ?_),h,fun _ => ⟨_,rfl,by simp⟩,by simp,?_⟩
    ·rw [List.getElem?_map] at hy
     have hj : j < cs.length:=by have:=(List.getElem?_eq_some_iff.1 hu).1;omega
     rw [List.getElem?_range hj] at hy
     cases hy
     refine .f _ _ ?_ (ho1 u (List.mem_of_getElem? hu))
     simp only [fCell,List.getElem?_eq_getElem hj]
     exact hx1 j _ u (List.getElem?_eq_getElem hj) hu
    ·have hall : ((List.range cs.length).map fun i => V.f (fCell (.agg cs) i)).all isOne = true:=by
      rw [List.all_eq_true];intro v hv;obtain ⟨i,_,rfl⟩:=List.mem_map.1 hv;rfl
     simp only [fitsV,cellsV,hall]
  ·cases hl
 ·exact ⟨.f x,.f _ _ hx (h1 rfl),h,by simp,fun _ => rfl,rfl⟩
theorem entries_set {es : List (FV × FV)} {es' : List MapEntry} {i : Nat} {p : FV × FV} {e : MapEntry} (h : EntriesR w A es es') (hk : FR w A p.1 e.key) (hv : FR w A p.2 e.val) : EntriesR w A (es.set i p) (es'.set i e):=by
 refine ⟨by simp [h.1],fun j q f hq hf => ?_⟩
 rw [List.getElem?_set] at hq hf
 by_cases hij : i = j
 ·subst hij
  simp only [if_true] at hq hf
  split at hq
  ·rw [if_pos (by have:=h.1;omega)] at hf
   cases hq;cases hf;exact ⟨hk,hv⟩
  ·cases hq
 ·rw [if_neg hij] at hq hf
  exact h.2 j q f hq hf
theorem entries_push {es : List (FV × FV)} {es' : List MapEntry} {p : FV × FV} {e : MapEntry} (h : EntriesR w A es es') (hk : FR w A p.1 e.key) (hv : FR w A p.2 e.val) : EntriesR w A (es ++ [p]) (es' ++ [e]):=by
 refine ⟨by simp [h.1],fun j q f hq hf => ?_⟩
 have hl:=h.1
 rw [List.getElem?_append] at hq hf
 by_cases hj : j < es.length
 ·rw [if_pos hj] at hq;rw [if_pos (by omega)] at hf
  exact h.2 j q f hq hf
 ·rw [if_neg hj] at hq;rw [if_neg (by omega)] at hf
  have : j - es.length = 0:=by have:=(List.getElem?_eq_some_iff.1 hq).1;simp at this;omega
  rw [this] at hq;rw [← hl,this] at hf
  cases hq;cases hf;exact ⟨hk,hv⟩
theorem fits_one {agg : Bool} {v : V} {c : Value} (h : fitsV agg v = true) (hv : VR w A β H v c) : agg = false → c.oneCell' = true:=by
 intro ha;subst ha
 unfold fitsV cellsV at h
 simp only at h
 split at h
 ·rename_i h1
  split at h1
  ·rename_i hone;exact hv.one hone
  ·cases h1
 ·cases h
variable (hty : TyOk P E.ty)
include hty
theorem lookup_ok {k : V → Hp → R} {t : TypeId} {m key : Operand} {ok ag : Bool} {kt e id : Nat} {es : List (FV × FV)} {r : FV × Bool} (ho : o.op = .lookup t m key ok) (ht : (E.ty t).k = .map kt e) (hm : evalV F m = .mp id) (hid : H[id]? = some (Blk.map ag es))
  (hfit : fitsV (E.ty kt).isAgg (evalV F key) = true) (hek : (E.ty e).known = true) (hag : sameB ag (E.ty e).isAgg = true)
  (hr : mLook (E.ty kt).isAgg (E.ty kt).sk es (frz H (evalV F key)) (match (E.ty e).isAgg with | true => .agg (E.ty e).zero | false => (match (E.ty e).zero with | [z] => z | _ => .undef)) = some r)
  (st : St L B0 G T w0 F H a w A β) (hn : Nxt L B0 G T w0 F a o next res k)
  (h : splitAs (E.ty e).isAgg (E.ty e).size r.1 (fun v => k (match ok with | true => .tup [v,.f (.bool r.2)] | false => v) H) = some res) : o.wp P a w next Q:=by
 have hfact:=(hty t).k
 rw [ht] at hfact
 obtain ⟨hte,_⟩:=hfact
 obtain ⟨A1,fe1,_,hp1,hin⟩:=marks_rel st.hp (evalV F key)
 have hkey:=frz_rel st.hp fe1 (st.ev key) hin
 unfold mLook at hr
 obtain ⟨hok,hr⟩:=gB_some hr
 obtain ⟨q,hq,hr⟩:=bindO_some hr
 have hsk:=(hty kt).sk (keyOk_ne hok)
 obtain ⟨b,es',ck,h1,h2,h3,h4⟩:=st.hp.blk id _ hid
 have h3' : EntriesR w A1 es es'.toList:=h3.mono fe1
 obtain ⟨ri,hri,hcase⟩:=mFind_idx hq
 obtain ⟨r',hfind,hfound⟩:=findKey_rel (w:=w) hsk hkey h3' hri
 have hchk:=checkKey_rel (P:=P) (w:=w) (em:=es'.isEmpty) hsk hkey hok
 have hmv:=hm ▸ st.ev m
 generalize hc : a.eval m = c at hmv
 have hcv : c = .map (some b):=by
  cases hmv with
  | mp _ b2 hb hl => rw [hb] at h1;cases h1;rfl
 subst hcv
 have hag' : ag = (E.ty e).isAgg:=by cases ag <;> cases hh : (E.ty e).isAgg <;> rw [hh] at hag <;> first | rfl | cases hag
 obtain ⟨z,hz1,hz2,hz3,hz4,hz5⟩:=run_zeroValue w (hty e) hek
 obtain ⟨u,hu,hb,hone,hrun⟩ : ∃ u,FR w A r.1 u ∧ r.2 = ri.isSome ∧ ((E.ty e).isAgg = false → u.oneCell' = true) ∧ (execOp a.eval o).run P w = .ok (.value (if ok then .tuple #[u,.bool ri.isSome] else u)) w:=by
  rcases hcase with ⟨rfl,rfl⟩ | ⟨i,p,rfl,hp,rfl⟩
  ·cases hr
   rcases hfound with ⟨_,rfl⟩ | ⟨i,p,e',q1,_⟩
   ·refine ⟨z,?_,rfl,fun hf => ?_,by simp [execOp,ho,hc,Instr.lookup,run_underlying hte,getObj,Sem.run,h2,hchk,hfind,hz1]⟩
    ·simp only
     cases hh : (E.ty e).isAgg with
     | true =>
      obtain ⟨cs,rfl⟩:=hz5.2 hh
      rw [← hz2]
      have:=FR.agg (w:=w) (A:=A) (cs.toList.map constF) cs.toList (by simp) (fun c hc => by
       have:=Array.all_eq_true.1 hz4
       obtain ⟨j,hj,rfl⟩:=List.mem_iff_getElem.1 hc
       simp at hj
       simpa [Value.cells] using this j (by simpa [Value.cells] using hj)) (by
       intro j x c hx hc
       rw [List.getElem?_map,hc] at hx
       cases hx;exact constF_rel w A c)
      simpa [Value.cells] using this
     | false =>
      have h5:=hz5.1 hh
      rw [h5] at hz2
      simp at hz2
      rw [← hz2]
      exact constF_rel w A z
    ·have h5:=hz5.1 hf
     rw [h5] at hz4
     simpa using hz4
   ·cases q1
  ·cases hr
   rcases hfound with ⟨q1,_⟩ | ⟨i',p',e',q1,q2,q3,rfl,q4⟩
   ·cases q1
   ·cases q1
    rw [hp] at q2;cases q2
    refine ⟨e'.val,(h3.2 i p e' hp q3).2,rfl,fun hf => h4 (by rw [hag'];exact hf) e' (List.mem_of_getElem? q3),by simp [execOp,ho,hc,Instr.lookup,run_underlying hte,getObj,Sem.run,h2,hchk,hfind]⟩
 obtain ⟨v,hv,hk,_⟩:=splitAs_rel (β:=β) (H:=H) hu hone h
 refine wp_val st hn hk (u:=if ok then .tuple #[u,.bool ri.isSome] else u) ?_ hrun
 cases ok
 ·exact hv
 ·simp only [if_true]
  have:=VR.tup (w:=w) (A:=A) (β:=β) (H:=H) [v,.f (.bool r.2)] [u,.bool ri.isSome] rfl (by
   intro j x c hx hc
   match j with
   | 0 => cases hx;cases hc;exact hv
   | 1 => cases hx;cases hc;rw [hb];exact .f _ _ (.bool _) rfl
   | j + 2 => cases hx)
  exact this
end
end Go.Proofs.YtpffkpaiihcffaaGreatDoor.VM
end
section
namespace Go.Proofs.YtpffkpaiihcffaaGreatDoor.VM
open Go Go.RowKit
section
variable {P : Program} {E : Env} {L : List (Fr × Act)} {B0 : Nat} {G T : Nat → Prop} {w0 w w' : World} {A : Nat → Prop} {β : LocOf} {H : Hp} {F : Fr} {a : Act} {o : Oper}
variable {next : Act → World → Prop} {Q : Exit → Act → World → Prop} {res : FV}
def objSet (w : World) (b : Nat) (o : Obj) : World:={ w with heap:=w.heap.setIfInBounds b o }
theorem objSet_get {b : Nat} {o1 o2 : Obj} (h : w.heap[b]? = some o1) : (objSet w b o2).heap[b]? = some o2 ∧ (∀ b',b' ≠ b → (objSet w b o2).heap[b']? = w.heap[b']?) ∧ (objSet w b o2).heap.size = w.heap.size:=by
 have hlt : b < w.heap.size:=(Array.getElem?_eq_some_iff.1 h).1
 refine ⟨by simp [objSet,hlt],fun b' hb' => ?_,by simp [objSet]⟩
 simp [objSet,Ne.symm hb']
theorem run_setMap {b : Nat} {es : Array MapEntry} {ck : Nat} (o2 : Obj) (h : w.heap[b]? = some (.map es ck)) : (setObj b o2).run P w = .ok () (objSet w b o2):=by
 simp [setObj,Sem.run,h,objSet]
theorem run_setIt {b : Nat} {s : ByteArray} {n : Nat} (o2 : Obj) (h : w.heap[b]? = some (.stringIter s n)) : (setObj b o2).run P w = .ok () (objSet w b o2):=by
 simp [setObj,Sem.run,h,objSet]
theorem turn_map {id b : Nat} {ag : Bool} {es es2 : List (FV × FV)} {es' es2' : Array MapEntry} {ck ck2 : Nat} (st : St L B0 G T w0 F H a w A β) (hold : ∀ (i : Nat) r,H[i]? ≠ some (.old r)) (hid : H[id]? = some (Blk.map ag es)) (hb : β id = .at b 0 0 0) (hw : w.heap[b]? = some (.map es' ck))
  (he : EntriesR w A es2 es2'.toList) (hone : ag = false → ∀ e ∈ es2'.toList,e.val.oneCell' = true) : St L B0 G T w0 F (H.set id (.map ag es2)) a (objSet w b (.map es2' ck2)) A β:=by
 obtain ⟨g1,g2,g3⟩:=objSet_get (o2:=.map es2' ck2) hw
 have hours:=st.hp.ours id b 0 0 0 _ hid rfl hb
 have fe0 : FExt w A (objSet w b (.map es2' ck2)) A:=⟨fun _ h => h,fun b' hb' => g2 b' (fun e => hours.2 (e ▸ hb'))⟩
 have heSet : HExt β H β (H.set id (.map ag es2)):=HExt.set hid (fun r hr => by unfold rowsOf at hr;rw [hid] at hr;cases hr) (by simp)
 obtain ⟨fe,hp⟩:=st.hp.turn (k':=.map ag es2) hid rfl hb hold g3 g2 heSet rfl ⟨b,es2',ck2,rfl,g1,he.mono fe0,hone⟩
 exact ⟨st.fr.mono fe heSet,hp,st.below_turn hours.1 rfl rfl rfl g3 g2⟩
theorem key_any {A2 : Nat → Prop} {agg : Bool} {sk : List SK} {z : FV} {c : Value} (hkey2 : FR w A2 z c) (hok : keyOk agg sk z = true) : FR w A z c:=by
  unfold keyOk at hok
  have scal : ∀ {s : SK} {y : FV} {c : Value},FR w A2 y c → scalOk s y = true → FR w A y c:=by
   intro s y c hy hs
   unfold scalOk at hs
   split at hs
   ·cases hy;exact .bool _
   ·cases hy;exact .int _ _
   ·cases hy;exact .str _
   ·cases hs
  split at hok
  ·split at hok
   ·rename_i s0 ss cs
    cases hkey2 with
    | agg _ us hl ho1 hx1 =>
     refine .agg _ us hl ho1 fun j y c hy hc => ?_
     have hall : ∀ (sk : List SK) (cs : List FV),cellsOk sk cs = true → ∀ y ∈ cs,∃ s,scalOk s y = true:=by
      intro sk
      induction sk with
      | nil => intro cs h y hy;cases cs <;> simp [cellsOk] at h;cases hy
      | cons s sk ih =>
       intro cs h y hy
       cases cs with
       | nil => cases hy
       | cons c cs =>
        simp only [cellsOk,Bool.and_eq_true] at h
        rcases List.mem_cons.1 hy with rfl | hy
        ·exact ⟨s,h.1⟩
        ·exact ih cs h.2 y hy
     obtain ⟨s,hs⟩:=hall _ cs hok y (List.mem_of_getElem? hy)
     exact scal (hx1 j y c hy hc) hs
   ·cases hok
  ·split at hok
   ·exact scal hkey2 hok
   ·cases hok
variable (hty : TyOk P E.ty)
include hty
theorem mapUpdate_ok {k : V → Hp → R} {t : TypeId} {m key x : Operand} {ag ag' : Bool} {kt e id : Nat} {es es2 es3 : List (FV × FV)} (ho : o.op = .mapUpdate t m key x ∨ o.op = .insert t m key x) (ht : (E.ty t).k = .map kt e) (hm : evalV F m = .mp id) (hid : H[id]? = some (Blk.map ag es))
  (hag : sameB ag (E.ty e).isAgg = true) (hfitk : fitsV (E.ty kt).isAgg (evalV F key) = true) (hfit : fitsV (E.ty e).isAgg (evalV F x) = true) (hok : keyOk (E.ty kt).isAgg (E.ty kt).sk (frz H (evalV F key)) = true)
  (hput : mPut (E.ty kt).isAgg (E.ty kt).sk es (frz H (evalV F key)) (frz H (evalV F x)) = some es2) (hstill : (settle (marks H (evalV F x)))[id]? = some (Blk.map ag' es3))
  (st : St L B0 G T w0 F H a w A β) (hn : Nxt L B0 G T w0 F a o next res k) (h : k .un ((settle (marks H (evalV F x))).set id (.map ag es2)) = some res) : o.wp P a w next Q:=by
 have hfact:=(hty t).k
 rw [ht] at hfact
 obtain ⟨hte,_⟩:=hfact
 obtain ⟨A1,fe1,he1,hp1,hin⟩:=marks_rel st.hp (evalV F x)
 obtain ⟨he2,hp2⟩:=settle_rel hp1
 have hval:=frz_rel st.hp fe1 (st.ev x) hin
 obtain ⟨A2,fe2,_,_,hin2⟩:=marks_rel st.hp (evalV F key)
 have hkey2:=frz_rel st.hp fe2 (st.ev key) hin2
 have hkey : FR w A (frz H (evalV F key)) (a.eval key):=key_any hkey2 hok
 have hsk:=(hty kt).sk (keyOk_ne hok)
 have hH2 : H[id]? = some (Blk.map ag es):=hid
 have hmk : (marks H (evalV F x))[id]? = some (Blk.map ag es):=by
  unfold marks
  generalize idsV 4 (evalV F x) = ids
  have : ∀ (ids : List Nat) (K : Hp),K[id]? = some (Blk.map ag es) → (ids.foldl markOne K)[id]? = some (Blk.map ag es):=by
   intro ids
   induction ids with
   | nil => intro K hK;exact hK
   | cons i ids ih =>
    intro K hK
    refine ih _ ?_
    unfold markOne
    split
    ·rename_i s0 r hr
     rw [get_set_hp,if_neg (fun q => by rw [q.1] at hr;rw [hK] at hr;cases hr)];exact hK
    ·rename_i cs hr
     split
     ·rw [get_set_hp,if_neg (fun q => by rw [q.1] at hr;rw [hK] at hr;cases hr)];exact hK
     ·exact hK
    ·exact hK
  exact this ids H hid
 have hset : (settle (marks H (evalV F x)))[id]? = some (Blk.map ag es):=settle_get hmk (by simp)
 obtain ⟨b,es',ck,h1,h2,h3,h4⟩:=hp2.blk id _ hset
 have st2 : St L B0 G T w0 F (settle (marks H (evalV F x))) a w A1 β:=⟨st.fr.mono fe1 (he1.trans he2),hp2,st.below⟩
 obtain ⟨ri,hri,hcase⟩:=mPut_idx hput
 have hkeyA1:=hkey.mono fe1
 obtain ⟨r',hfind,hfound⟩:=findKey_rel (w:=w) hsk hkeyA1 h3 hri
 have hchk:=checkKey_rel (P:=P) (w:=w) (em:=false) hsk hkeyA1 hok
 have hmv:=hm ▸ st.ev m
 generalize hc : a.eval m = c at hmv
 have hcv : c = .map (some b):=by
  cases hmv with
  | mp _ b2 hb hl => rw [hb] at h1;cases h1;rfl
 subst hcv
 have hag2 : ag = (E.ty e).isAgg:=by cases ag <;> cases hh : (E.ty e).isAgg <;> rw [hh] at hag <;> first | rfl | cases hag
 have hone : ag = false → (a.eval x).oneCell' = true:=fun hf => fits_one hfit (st.ev x) (by rw [← hag2];exact hf)
 have hget : (getObj b).run P w = .ok (.map es' ck) w:=by simp [getObj,Sem.run,h2]
 rcases hcase with ⟨rfl,rfl⟩ | ⟨i,rfl,hi,rfl⟩
 ·rcases hfound with ⟨_,rfl⟩ | ⟨i,p,e',q1,_⟩
  ·have st3:=turn_map (es2':=es'.push { key:=a.eval key,val:=a.eval x,born:=ck }) (ck2:=ck + 1) st2 (fun i r => no_old i r) hset h1 h2 (by
    rw [Array.toList_push]
    exact entries_push (p:=(frz H (evalV F key),frz H (evalV F x))) (e:={ key:=a.eval key,val:=a.eval x,born:=ck }) h3 hkeyA1 hval) (fun hf e1 he1 => by
    rw [Array.toList_push] at he1
    rcases List.mem_append.1 he1 with h5 | h5
    ·exact h4 hf e1 h5
    ·simp at h5;subst h5;exact hone hf)
   refine wp_skp hn h st3 ?_
   rcases ho with ho | ho <;> simp [execOp,ho,hc,Instr.mapUpdate,run_underlying hte,hget,hchk,hfind,run_setMap _ h2]
  ·cases q1
 ·rcases hfound with ⟨q1,_⟩ | ⟨i',p',e',q1,q2,q3,rfl,q4⟩
  ·cases q1
  ·cases q1
   have hes : es'[i]? = some e':=by simpa using q3
   have hsame:=keyEq_same (w:=w) (A:=A1) hkeyA1 (h3.2 i p' e' q2 q3).1 q4
   have hmod : (es'.modify i fun e => { e with key:=a.eval key,val:=a.eval x }).toList = es'.toList.set i { e' with key:=a.eval key,val:=a.eval x }:=by
    rw [Array.toList_modify]
    apply List.ext_getElem?
    intro j
    rw [List.getElem?_modify,List.getElem?_set]
    by_cases hij : i = j
    ·subst hij
     have hl : i < es'.toList.length:=(List.getElem?_eq_some_iff.1 q3).1
     simp [q3,hl]
     have:=(Array.getElem?_eq_some_iff.1 hes).1
     simp [this,hes]
    ·simp [hij]
   have st3:=turn_map (es2':=es'.modify i fun e => { e with key:=a.eval key,val:=a.eval x }) (ck2:=ck) st2 (fun i r => no_old i r) hset h1 h2 (by
    rw [hmod]
    exact entries_set (p:=(frz H (evalV F key),frz H (evalV F x))) (e:={ e' with key:=a.eval key,val:=a.eval x }) h3 hkeyA1 hval) (fun hf e1 he1 => by
    rw [hmod] at he1
    rcases List.mem_or_eq_of_mem_set he1 with h5 | h5
    ·exact h4 hf e1 h5
    ·subst h5;exact hone hf)
   refine wp_skp hn h st3 ?_
   rcases ho with ho | ho <;> simp [execOp,ho,hc,Instr.mapUpdate,run_underlying hte,hget,hchk,hfind,hes,Instr.keyThatStays,hsame,run_setMap _ h2]
omit hty in
theorem next_ok {k : V → Hp → R} {x : Operand} {id pos : Nat} {s : FV} {r : Bool × Int × Nat} (ho : o.op = .next x true) (hx : evalV F x = .it id) (hid : H[id]? = some (.sit s pos)) (hr : fNext s pos = some r) (st : St L B0 G T w0 F H a w A β) (hn : Nxt L B0 G T w0 F a o next res k)
  (h : fCond (.bool r.1) (k (.tup [.f (.bool true),.f (.int .i64 pos),.f (.int .i32 r.2.1)]) ((settle H).set id (.sit s r.2.2))) (k (.tup [.f (.bool false)]) H) = some res) : o.wp P a w next Q:=by
 obtain ⟨b,t,h1,h2,h3⟩:=st.hp.blk id _ hid
 have hxv:=hx ▸ st.ev x
 generalize hc : a.eval x = c at hxv
 have hcv : c = .pointer (some ⟨b,0,none⟩):=by
  cases hxv with
  | it _ b2 hb hl => rw [hb] at h1;cases h1;rfl
 subst hcv
 have hget : (getObj b).run P w = .ok (.stringIter t pos) w:=by simp [getObj,Sem.run,h2]
 have hs : ∃ l,s = .str l:=by
  unfold fNext at hr
  split at hr
  ·exact ⟨_,rfl⟩
  ·cases hr
 obtain ⟨l0,rfl⟩:=hs
 cases h3 with
 | str _ =>
  have harr : (⟨t.data.toList.toArray⟩ : ByteArray) = t:=by simp
  have hlen : t.data.toList.length = t.size:=by simp
  unfold fNext at hr
  simp only at hr
  split at hr
  ·rename_i hlt
   rw [harr] at hr
   cases hr
   simp only [fCond] at h
   rw [hlen] at hlt
   obtain ⟨he1,hp1⟩:=settle_rel st.hp
   have hid1 : (settle H)[id]? = some (.sit (.str t.data.toList) pos):=settle_get hid (by simp)
   obtain ⟨g1,g2,g3⟩:=objSet_get (o2:=.stringIter t (pos + (Utf8.decode t pos).2)) h2
   have hours:=hp1.ours id b 0 0 0 _ hid1 rfl h1
   have heSet : HExt β (settle H) β ((settle H).set id (.sit (.str t.data.toList) (pos + (Utf8.decode t pos).2))):=HExt.set hid1 (fun r hr => by unfold rowsOf at hr;rw [hid1] at hr;cases hr) (by simp)
   obtain ⟨fe,hp2⟩:=hp1.turn (k':=.sit (.str t.data.toList) (pos + (Utf8.decode t pos).2)) hid1 rfl h1 (fun i r => no_old i r) g3 g2 heSet rfl ⟨b,t,rfl,g1,.str t⟩
   refine wp_val' (w':=objSet w b (.stringIter t (pos + (Utf8.decode t pos).2))) (u:=.tuple #[.bool true,goInt pos,.int .i32 (Utf8.decode t pos).1]) hn h ?_ ⟨st.fr.mono fe (he1.trans heSet),hp2,st.below_turn hours.1 rfl rfl rfl g3 g2⟩ ?_
   ·have:=VR.tup (w:=objSet w b (.stringIter t (pos + (Utf8.decode t pos).2))) (A:=A) (β:=β) (H:=(settle H).set id (.sit (.str t.data.toList) (pos + (Utf8.decode t pos).2))) [.f (.bool true),.f (.int .i64 pos),.f (.int .i32 (Utf8.decode t pos).1)] [.bool true,goInt pos,.int .i32 (Utf8.decode t pos).1] rfl (by
     intro j x c hx hc
     match j with
     | 0 => cases hx;cases hc;exact .f _ _ (.bool _) rfl
     | 1 => cases hx;cases hc;exact .f _ _ (.int _ _) rfl
     | 2 => cases hx;cases hc;exact .f _ _ (.int _ _) rfl
     | j + 3 => cases hx)
    exact this
   ·simp [execOp,ho,hc,Instr.next,hget,hlt,run_setIt _ h2]
  ·rename_i hlt
   cases hr
   simp only [fCond] at h
   rw [hlen] at hlt
   refine wp_val st hn h (u:=.tuple #[.bool false]) ?_ (by simp [execOp,ho,hc,Instr.next,hget,hlt])
   exact VR.tup [.f (.bool false)] [.bool false] rfl (by
    intro j x c hx hc
    match j with
    | 0 => cases hx;cases hc;exact .f _ _ (.bool _) rfl
    | j + 1 => cases hx)
end
end Go.Proofs.YtpffkpaiihcffaaGreatDoor.VM
end
