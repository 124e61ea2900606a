/- Operations, continued: equality of aggregates, maps. -/
import Derived.Test.YtpffkpaiihcffaaGreatDoorOps9
import Derived.Laws.StructEq
import Derived.MapKept
set_option linter.unusedVariables false
set_option linter.unusedSimpArgs false
set_option linter.unusedSectionVars false
namespace Go.Proofs.YtpffkpaiihcffaaGreatDoor.VM
open Go Go.RowKit
section
variable {P : Program} {E : Env} {L : List (Fr × Act)} {B0 : Nat} {G T : Nat → Prop} {w0 w w' : World} {A : Nat → Prop} {β : LocOf} {H : Hp} {F : Fr} {a : Act} {o : Oper}
variable {next : Act → World → Prop} {Q : Exit → Act → World → Prop} {res : FV}
theorem bytes_beq (a b : ByteArray) : (a == b) = (a.data.toList == b.data.toList):=by rw [beq_toListBytes,toList_data,toList_data]
theorem scalar_run {t : TypeId} {s : SK} {x y : FV} {c d : Value} {b : Bool} (hs : ScalarTy P t s) (hx : FR w A x c) (hy : FR w A y d) (h : scalarEq s x y = some b) (n : Nat) : (Op.equalIn (n + 1) t c d).run P w = .ok b w:=by
 unfold scalarEq at h
 split at h
 ·cases h;cases hx;cases hy;simp only [ScalarTy] at hs;simp [Op.equalIn,run_underlying hs]
 ·split at h
  ·rename_i hk;subst hk;cases h;cases hx;cases hy
   obtain ⟨k,hs⟩:=hs
   simp [Op.equalIn,run_underlying hs]
  ·cases h
 ·cases h
  cases hx with
  | str s1 => cases hy with
   | str s2 => simp only [ScalarTy] at hs;simp [Op.equalIn,run_underlying hs,bytes_beq]
 ·cases h
theorem scalar_notAgg {t : TypeId} {s : SK} (hs : ScalarTy P t s) : (isAgg t).run P w = .ok false w:=by
 cases s with
 | bool => simp only [ScalarTy] at hs;simp [isAgg,run_underlying hs]
 | int => obtain ⟨k,hs⟩:=hs;simp [isAgg,run_underlying hs]
 | str => simp only [ScalarTy] at hs;simp [isAgg,run_underlying hs]
theorem cells_run (n : Nat) (us vs : Array Value) : ∀ (fs : List Field) (sk : List SK) (i : Nat) (xs ys : List FV) (b : Bool),fs.length = sk.length → (∀ (j : Nat) f s,fs[j]? = some f → sk[j]? = some s → f.offset = i + j ∧ f.name ≠ "_" ∧ ScalarTy P f.type s) →
  (∀ (j : Nat) x,xs[j]? = some x → ∃ u,us[i + j]? = some u ∧ FR w A x u) → (∀ (j : Nat) y,ys[j]? = some y → ∃ u,vs[i + j]? = some u ∧ FR w A y u) → cellsEq sk xs ys = some b →
  (Op.eqFields (n + 1) us vs fs).run P w = .ok b w
 | [],sk,i,xs,ys,b,hl,hf,hx,hy,h => by
  have : sk = []:=List.eq_nil_of_length_eq_zero (by simpa using hl.symm)
  subst this
  cases xs <;> cases ys <;> simp [cellsEq] at h
  subst h
  simp [Op.eqFields]
 | f :: fs,sk,i,xs,ys,b,hl,hf,hx,hy,h => by
  cases sk with
  | nil => simp at hl
  | cons s sk =>
   cases xs with
   | nil => simp [cellsEq] at h
   | cons x xs =>
    cases ys with
    | nil => simp [cellsEq] at h
    | cons y ys =>
     simp only [cellsEq] at h
     obtain ⟨b1,h1,h⟩:=bindO_some h
     obtain ⟨b2,h2,h⟩:=bindO_some h
     cases h
     obtain ⟨g1,g2,g3⟩:=hf 0 f s rfl rfl
     obtain ⟨u,q1,q2⟩:=hx 0 x rfl
     obtain ⟨v,q3,q4⟩:=hy 0 y rfl
     have ih:=cells_run n us vs fs sk (i + 1) xs ys b2 (by simpa using hl) (fun j f s hf1 hs1 => by
       have:=hf (j + 1) f s hf1 hs1
       exact ⟨by omega,this.2⟩) (fun j x hx1 => by
       obtain ⟨u,r1,r2⟩:=hx (j + 1) x hx1
       exact ⟨u,by rw [show i + 1 + j = i + (j + 1) by omega];exact r1,r2⟩) (fun j x hx1 => by
       obtain ⟨u,r1,r2⟩:=hy (j + 1) x hx1
       exact ⟨u,by rw [show i + 1 + j = i + (j + 1) by omega];exact r1,r2⟩) h2
     rw [Nat.add_zero] at g1 q1 q3
     have e1:=scalar_run g3 q2 q4 h1 n
     have e2:=scalar_notAgg (w:=w) g3
     unfold Op.eqFields
     rw [if_pos g2]
     simp only [Sem.run_bind,part,e2,Result.andThen,Bool.false_eq_true,if_false,g1,q1,q3,Sem.run_pure,e1]
     cases b1
     ·simp
     ·simp only [Bool.not_true,Bool.false_eq_true,if_false,Bool.true_and];exact ih
theorem keyEq_run {t : TypeId} {agg : Bool} {sk : List SK} {x y : FV} {c d : Value} {b : Bool} (hs : SkFact P t agg sk) (hx : FR w A x c) (hy : FR w A y d) (h : keyEq agg sk x y = some b) : (Op.equal t c d).run P w = .ok b w:=by
 unfold keyEq at h
 split at h
 ·split at h
  ·rename_i xs ys
   obtain ⟨fields,h1,h2,h3,h4,h5⟩:=hs
   cases hx with
   | agg _ us hl1 ho1 hx1 =>
    cases hy with
    | agg _ vs hl2 ho2 hx2 =>
     have hfields : P.fieldsOf t = fields:=by simp [Program.fieldsOf,h1]
     have:=run_equalIn_struct (P:=P) w 9999 t us.toArray vs.toArray (by rw [hfields];exact h1) h2
     unfold Op.equal
     rw [show Op.maxDepth = 9999 + 1 from rfl,this,hfields]
     exact cells_run 9998 us.toArray vs.toArray fields.toList sk 0 xs ys b h4 (fun j f s hf hs => by simpa using h5 j f s hf hs) (fun j x hx => by
      have hj : j < us.length:=by have:=(List.getElem?_eq_some_iff.1 hx).1;omega
      exact ⟨us[j],by simp [hj],hx1 j x _ hx (List.getElem?_eq_getElem hj)⟩) (fun j x hx => by
      have hj : j < vs.length:=by have:=(List.getElem?_eq_some_iff.1 hx).1;omega
      exact ⟨vs[j],by simp [hj],hx2 j x _ hx (List.getElem?_eq_getElem hj)⟩) h
  ·cases h
 ·split at h
  ·rename_i s
   obtain ⟨s',q1,q2⟩:=hs
   cases q1
   unfold Op.equal
   rw [show Op.maxDepth = 9999 + 1 from rfl]
   exact scalar_run q2 hx hy h 9999
  ·cases h
variable (hty : TyOk P E.ty)
theorem eqF_eq {x y : FV} (h : eqF x y = true) : x = y:=by
 unfold eqF at h
 split at h
 ·rfl
 ·rfl
 ·rename_i a b;cases a <;> cases b <;> first | rfl | cases h
 ·simp only [Bool.and_eq_true,decide_eq_true_eq] at h;rw [h.1,h.2]
 ·simp only [decide_eq_true_eq] at h;rw [h]
 ·cases h
theorem bothR_some {a b : R} {r : FV} (h : bothR a b = some r) : a = some r ∧ b = some r:=by
 unfold bothR at h
 split at h
 ·split at h
  ·obtain ⟨h1,h⟩:=gB_some h
   cases h
   exact ⟨rfl,by rw [eqF_eq h1]⟩
  ·cases h
 ·cases h
theorem onRows_some {rows : List (List FV)} {a b : R} {r : FV} (h : onRows rows a b = some r) : b = some r ∧ (rows = [] → a = some r):=by
 unfold onRows at h
 split at h
 ·exact ⟨(bothR_some h).2,fun _ => (bothR_some h).1⟩
 ·exact ⟨h,fun e => by cases e⟩
theorem nil_ok {neg : Bool} {k : V → Hp → R} {op : BinOp} {xt yt e : TypeId} {x y : Operand} (hty : TyOk P E.ty) (ho : o.op = .binOp op xt x y yt) (hy : isNilO y = true) (ht : (E.ty xt).k = .slice e) (hop : op = match neg with | true => .neq | false => .eql)
  (st : St L B0 G T w0 F H a w A β) (hn : Nxt L B0 G T w0 F a o next res k) (h : nilK (evalV F x) H (k (.f (.bool (!neg))) H) (k (.f (.bool neg)) H) = some res) : o.wp P a w next Q:=by
 have hu : P.underlying xt = some (.slice e):=by have:=(hty xt).k;rw [ht] at this;exact this.1
 have hye : a.eval y = .slice none 0 0:=by
  unfold isNilO at hy
  split at hy
  ·rfl
  ·cases hy
 have hv:=st.ev x
 have key : ∃ ad n cap,a.eval x = .slice ad n cap ∧ k (.f (.bool (match ad.isNone with | true => !neg | false => neg))) H = some res:=by
  generalize evalV F x = v at h hv
  generalize a.eval x = c at hv
  cases v with
  | f y =>
   obtain ⟨hv,_⟩:=hv.f'
   simp only [nilK] at h
   cases hv with
   | nilS ad =>
    simp only [onFV] at h
    obtain ⟨h1,h2⟩:=bothR_some h
    cases ad with
    | none => exact ⟨_,0,0,rfl,h1⟩
    | some ad => exact ⟨_,0,0,rfl,h2⟩
   | arrNil ad cap =>
    simp only [onFV] at h
    obtain ⟨h1,h2⟩:=onRows_some h
    cases ad with
    | none => exact ⟨_,0,cap,rfl,h2 rfl⟩
    | some ad => exact ⟨_,0,cap,rfl,h1⟩
   | arr rows ad cap s u hs hc hr hA hm h1 hx =>
    simp only [onFV] at h
    exact ⟨some ad,_,cap,rfl,(onRows_some h).1⟩
   | _ => cases h
  | ref id =>
   simp only [nilK] at h
   split at h
   ·rename_i r hr
    cases hv with
    | refNil _ ad hb hr2 =>
     rw [hr] at hr2
     cases hr2
     obtain ⟨h1,h2⟩:=onRows_some h
     cases ad with
     | none => exact ⟨_,0,0,rfl,h2 rfl⟩
     | some ad => exact ⟨_,0,0,rfl,h1⟩
    | refAt _ b o' s cap n hb rows hr2 hn2 => exact ⟨some _,n,cap,rfl,(onRows_some h).1⟩
    | refDead _ _ hd => unfold rowsOf at hr;rw [hd] at hr;cases hr
   ·cases h
  | _ => cases h
 obtain ⟨ad,n,cap,hc,hk⟩:=key
 refine wp_val st hn hk (.f _ _ (.bool _) rfl) ?_
 have hrun : (Op.equal xt (.slice ad n cap) (.slice none 0 0)).run P w = .ok ad.isNone w:=by
  have : ∀ d,(Op.equalIn (d + 1) xt (.slice ad n cap) (.slice none 0 0)).run P w = .ok ad.isNone w:=fun d => by
   cases ad <;> simp [Op.equalIn,run_underlying hu]
  simp only [Op.equal,Op.maxDepth,this]
 cases neg <;> subst hop <;> (simp only [execOp,ho,hc,hye,eqGuard,binOp];simp [hrun];cases ad <;> rfl)
theorem aggBin_ok {k : V → Hp → R} {op : BinOp} {xt yt : TypeId} {x y : Operand} {p q : List V} {z : FV} (hty : TyOk P E.ty) (ho : o.op = .binOp op xt x y yt) (hx : evalV F x = .agg p) (hy : evalV F y = .agg q) (hz : fAggBin (E.ty xt).sk op (p.map (frzC H)) (q.map (frzC H)) = some z) (hagg : (E.ty xt).isAgg = true)
  (st : St L B0 G T w0 F H a w A β) (hn : Nxt L B0 G T w0 F a o next res k) (h : k (.f z) H = some res) : o.wp P a w next Q:=by
 have hxv:=hx ▸ st.ev x
 have hyv:=hy ▸ st.ev y
 generalize hc : a.eval x = c at hxv
 generalize hd : a.eval y = d at hyv
 obtain ⟨A1,fe1,_,_,hin⟩:=marks_rel st.hp (.agg (p ++ q))
 cases hxv with
 | agg _ us hl1 hx1 =>
  cases hyv with
  | agg _ vs hl2 hx2 =>
   have key : ∀ b,cellsEq (E.ty xt).sk (p.map (frzC H)) (q.map (frzC H)) = some b → (E.ty xt).sk ≠ [] → (Op.equalIn 10000 xt (.agg us.toArray) (.agg vs.toArray)).run P w = .ok b w ∧ P.eqGuardType P.depth xt = false:=by
    intro b hb hne
    have hs:=(hty xt).sk hne
    rw [hagg] at hs
    obtain ⟨fields,h1,h2,h3,h4,h5⟩:=hs
    have hfields : P.fieldsOf xt = fields:=by simp [Program.fieldsOf,h1]
    have:=run_equalIn_struct (P:=P) w 9999 xt us.toArray vs.toArray (by rw [hfields];exact h1) h2
    rw [hfields] at this
    refine ⟨this.trans (cells_run (A:=A1) 9998 us.toArray vs.toArray fields.toList _ 0 _ _ b h4 (fun j f s hf hs => by simpa using h5 j f s hf hs) (fun j x hx => ?_) (fun j x hx => ?_) hb),h3⟩
    ·rw [List.getElem?_map] at hx
     cases hv : p[j]? with
     | none => rw [hv] at hx;cases hx
     | some v =>
      rw [hv] at hx;cases hx
      have hj : j < us.length:=by have:=(List.getElem?_eq_some_iff.1 hv).1;omega
      exact ⟨us[j],by simp [hj],frzC_rel st.hp fe1 (hx1 j v _ hv (List.getElem?_eq_getElem hj)) fun i hi => hin i (List.mem_flatMap.2 ⟨v,List.mem_append_left _ (List.mem_of_getElem? hv),hi⟩)⟩
    ·rw [List.getElem?_map] at hx
     cases hv : q[j]? with
     | none => rw [hv] at hx;cases hx
     | some v =>
      rw [hv] at hx;cases hx
      have hj : j < vs.length:=by have:=(List.getElem?_eq_some_iff.1 hv).1;omega
      exact ⟨vs[j],by simp [hj],frzC_rel st.hp fe1 (hx2 j v _ hv (List.getElem?_eq_getElem hj)) fun i hi => hin i (List.mem_flatMap.2 ⟨v,List.mem_append_right _ (List.mem_of_getElem? hv),hi⟩)⟩
   unfold fAggBin at hz
   split at hz
   ·rename_i s0 ss hsk
    obtain ⟨b,h1,h2⟩:=bindO_some hz
    cases h2
    obtain ⟨g1,g2⟩:=key b h1 (by rw [hsk];simp)
    refine wp_val st hn h (u:=.bool b) (.f _ _ (.bool b) rfl) ?_
    simp only [execOp,ho,hc,hd,Sem.run_bind,run_eqGuard_agg w .eql xt x y _ _ g2,Result.andThen_ok,run_eql_struct w,g1]
    rfl
   ·rename_i s0 ss hsk
    obtain ⟨b,h1,h2⟩:=bindO_some hz
    cases h2
    obtain ⟨g1,g2⟩:=key b h1 (by rw [hsk];simp)
    refine wp_val st hn h (u:=.bool !b) (.f _ _ (.bool _) rfl) ?_
    simp only [execOp,ho,hc,hd,Sem.run_bind,run_eqGuard_agg w .neq xt x y _ _ g2,Result.andThen_ok,run_neq_struct w,g1]
    rfl
   ·cases hz
end
end Go.Proofs.YtpffkpaiihcffaaGreatDoor.VM
