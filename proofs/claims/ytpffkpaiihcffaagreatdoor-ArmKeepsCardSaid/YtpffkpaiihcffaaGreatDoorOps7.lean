/- Operations, continued: aggregates, fields, indices, plain builtins. -/
import Derived.Test.YtpffkpaiihcffaaGreatDoorOps6
import Derived.Laws.Tables
set_option linter.unusedVariables false
set_option linter.unusedSimpArgs false
set_option linter.unusedSectionVars false
namespace Go.Proofs.YtpffkpaiihcffaaGreatDoor.VM
open Go Go.RowKit
section
variable {P : Program} {E : Env} {L : List (Fr × Act)} {B0 : Nat} {G T : Nat → Prop} {w0 w w' : World} {A : Nat → Prop} {β : LocOf} {H : Hp} {F : Fr} {a : Act} {o : Oper}
variable {next : Act → World → Prop} {Q : Exit → Act → World → Prop} {res : FV}
theorem fill_rel (hfr : FRel L w A β H F a) {fs : List (Nat × Nat × Bool)} {place : Nat → Option (Nat × Nat)} (hpl : ∀ (i off size : Nat) (agg : Bool),fs[i]? = some (off,size,agg) → place i = some (off,size)) :
  ∀ (ps : List (Nat × Operand)) (z : List V) (cells : Array Value) (cs : List V),z.length = cells.size → (∀ (k : Nat) v u,z[k]? = some v → cells[k]? = some u → VR w A β H v u) →
   fillV fs z (ps.map fun p => (p.1,evalV F p.2)) = some cs → ∃ cells',Instr.fill place cells (ps.map fun p => (p.1,a.eval p.2)) = some cells' ∧ cs.length = cells'.size ∧ ∀ (k : Nat) v u,cs[k]? = some v → cells'[k]? = some u → VR w A β H v u
 | [],z,cells,cs,hl,hz,h => by
  simp only [List.map_nil,fillV] at h
  cases h
  exact ⟨cells,rfl,hl,hz⟩
 | (i,x) :: ps,z,cells,cs,hl,hz,h => by
  simp only [List.map_cons,fillV] at h
  split at h
  ·rename_i off size agg hf
   split at h
   ·rename_i vs hvs
    split at h
    ·rename_i hfit
     have hv:=evalV_rel hfr x
     obtain ⟨c1,c2,c3,c4,_⟩:=cellsV_rel hvs hv (fun _ h => cells_one h)
     have hsz : (a.eval x).cells.size = size:=by have:=c1;simp at this;omega
     have hvl : vs.length = size:=hfit.1
     obtain ⟨g1,g2⟩:=Great.foldl_set off (a.eval x).cells.toList 0 cells
     obtain ⟨cells',q1,q2,q3⟩:=fill_rel hfr hpl ps (listSets z off vs) (((a.eval x).cells.toList.zipIdx 0).foldl (fun cs (x : Value × Nat) => cs.setIfInBounds (off + x.2) x.1) cells) cs (by rw [listSets_length,g1,hl]) (by
      intro k v u hv1 hu1
      rw [listSets_get _ _ _ _ (by omega)] at hv1
      rw [g2] at hu1
      by_cases hin : off ≤ k ∧ k < off + vs.length
      ·rw [if_pos hin] at hv1
       rw [if_pos (by omega)] at hu1
       exact c2 (k - off) v u hv1 (by simpa using hu1)
      ·rw [if_neg hin] at hv1
       rw [if_neg (by omega)] at hu1
       exact hz k v u hv1 hu1) h
     refine ⟨cells',?_,q2,q3⟩
     rw [List.map_cons]
     unfold Instr.fill
     simp only [hpl i off size agg hf]
     rw [if_neg (by simp;omega),← q1]
     congr 1
     rw [← Array.foldl_toList,Array.toList_zipIdx]
    ·cases h
   ·cases h
  ·cases h
variable (hty : TyOk P E.ty)
theorem zero_rel {t : TypeId} {i : TypeInfo} {z : Value} (h5 : z.cells.toList.map constF = (E.ty t).zero) (h7 : z.cells.all (·.oneCell') = true) : ((E.ty t).zero.map V.f).length = z.cells.size ∧ ∀ (k : Nat) v u,((E.ty t).zero.map V.f)[k]? = some v → z.cells[k]? = some u → VR w A β H v u:=by
 rw [← h5]
 refine ⟨by simp,fun k v u hv hu => ?_⟩
 rw [List.map_map,List.getElem?_map] at hv
 have hk : k < z.cells.size:=(Array.getElem?_eq_some_iff.1 hu).1
 have hu' : z.cells.toList[k]? = some u:=by simpa using hu
 rw [hu'] at hv
 cases hv
 obtain ⟨_,rfl⟩:=Array.getElem?_eq_some_iff.1 hu
 exact .f _ _ (constF_rel w A _) (Array.all_eq_true.1 h7 k hk)
include hty
theorem struct_places {t : Nat} {fs : List (Nat × Nat × Bool)} (hk : (E.ty t).k = .struct fs) : ∃ (fields : Array Field) (places : List (Nat × Nat)),P.underlying t = some (.struct fields) ∧ fields.toList.mapM (fun f => (P.info? f.type).map fun i => (f.offset,i.size)) = some places ∧
  (∀ (i off size : Nat) (agg : Bool),fs[i]? = some (off,size,agg) → places[i]? = some (off,size) ∧ ∃ f,fields[i]? = some f ∧ f.offset = off ∧ (E.ty f.type).known = true ∧ (E.ty f.type).size = size ∧ (E.ty f.type).isAgg = agg ∧ 0 < size):=by
 have hf:=(hty t).k
 rw [hk] at hf
 obtain ⟨fields,h1,h2,h3,_⟩:=hf
 have hplaces : ∀ (l : List Field),(∀ f ∈ l,(E.ty f.type).known = true) → l.mapM (fun f => (P.info? f.type).map fun i => (f.offset,i.size)) = some (l.map fun f => (f.offset,(E.ty f.type).size)):=by
  intro l
  induction l with
  | nil => intro _;rfl
  | cons f l ih =>
   intro hl
   obtain ⟨i,z,i1,i2,_⟩:=(hty f.type).info (hl f (by simp))
   simp [List.mapM_cons,i1,i2,ih (fun g hg => hl g (by simp [hg]))]
 refine ⟨fields,_,h1,hplaces _ (fun f hf => (h3 f hf).1),?_⟩
 intro i off size agg hi
 rw [← h2,List.getElem?_map] at hi
 cases hfi : fields.toList[i]? with
 | none => rw [hfi] at hi;cases hi
 | some f =>
  rw [hfi] at hi
  simp at hi
  obtain ⟨rfl,rfl,rfl⟩:=hi
  have hm:=List.mem_of_getElem? hfi
  refine ⟨by rw [List.getElem?_map,hfi];rfl,f,by simpa using hfi,rfl,(h3 f hm).1,rfl,rfl,(h3 f hm).2.1⟩
theorem buildStruct_ok {k : V → Hp → R} {t : TypeId} {parts : Array (Nat × Operand)} {fs : List (Nat × Nat × Bool)} {cs : List V} (ho : o.op = .build t parts) (hk : (E.ty t).k = .struct fs) (hf : fillV fs ((E.ty t).zero.map .f) (parts.toList.map fun p => (p.1,evalV F p.2)) = some cs)
  (st : St L B0 G T w0 F H a w A β) (hn : Nxt L B0 G T w0 F a o next res k) (h : k (.agg cs) H = some res) : o.wp P a w next Q:=by
 obtain ⟨fields,places,h1,h2,h3⟩:=struct_places hty hk
 obtain ⟨i,z,i1,i2,i3,i4,i5,i6,i7,_⟩:=(hty t).info (by unfold TyI.known;rw [hk])
 obtain ⟨z1,z2⟩:=zero_rel (w:=w) (A:=A) (β:=β) (H:=H) (i:=i) i5 i7
 obtain ⟨cells',g1,g2,g3⟩:=fill_rel st.fr (place:=fun (x : Nat) => places[x]?) (fun i off size agg hi => (h3 i off size agg hi).1) parts.toList _ z.cells cs z1 z2 hf
 have hb : P.built t (parts.map fun p => (p.1,a.eval p.2)).toList = some cells':=by
  unfold Program.built
  simp only [i1,h1,i4,h2]
  have : (fun (x : Nat) => places.toArray[x]?) = fun (x : Nat) => places[x]?:=by funext x;simp
  rw [this,← g1];congr 1;simp
 refine wp_val st hn h (u:=.agg cells') ?_ (by simp only [execOp,ho,Sem.run_bind,run_build w t _ cells' hb];rfl)
 have:=VR.agg (w:=w) (A:=A) (β:=β) (H:=H) cs cells'.toList (by simpa using g2) (by
  intro k v u hv hu
  exact g3 k v u hv (by simpa using hu))
 simpa using this
theorem buildArray_ok {k : V → Hp → R} {t : TypeId} {parts : Array (Nat × Operand)} {n e : Nat} {cs : List V} (ho : o.op = .build t parts) (hk : (E.ty t).k = .array n e)
  (hf : fillV ((List.range n).map fun i => (i * (E.ty e).size,(E.ty e).size,(E.ty e).isAgg)) ((E.ty t).zero.map .f) (parts.toList.map fun p => (p.1,evalV F p.2)) = some cs)
  (st : St L B0 G T w0 F H a w A β) (hn : Nxt L B0 G T w0 F a o next res k) (h : k (.agg cs) H = some res) : o.wp P a w next Q:=by
 have hfact:=(hty t).k
 rw [hk] at hfact
 obtain ⟨h1,hek⟩:=hfact
 obtain ⟨i,z,i1,i2,i3,i4,i5,i6,i7,_⟩:=(hty t).info (by unfold TyI.known;rw [hk])
 obtain ⟨ie,ze,e1,e2,_⟩:=(hty e).info hek
 obtain ⟨z1,z2⟩:=zero_rel (w:=w) (A:=A) (β:=β) (H:=H) (i:=i) i5 i7
 obtain ⟨cells',g1,g2,g3⟩:=fill_rel st.fr (place:=fun i => some (i * (E.ty e).size,(E.ty e).size)) (fun i off size agg hi => by
  rw [List.getElem?_map] at hi
  cases hr : (List.range n)[i]? with
  | none => rw [hr] at hi;cases hi
  | some j =>
   rw [hr] at hi
   simp at hi
   have : j = i:=by have:=List.getElem?_eq_some_iff.1 hr;obtain ⟨q1,q2⟩:=this;simp at q2;exact q2.symm
   subst this
   rw [← hi.1,← hi.2.1]) parts.toList _ z.cells cs z1 z2 hf
 have hb : P.built t (parts.map fun p => (p.1,a.eval p.2)).toList = some cells':=by
  unfold Program.built
  simp only [i1,h1,i4,e1,e2]
  rw [← g1];congr 1;simp
 refine wp_val st hn h (u:=.agg cells') ?_ (by simp only [execOp,ho,Sem.run_bind,run_build w t _ cells' hb];rfl)
 have:=VR.agg (w:=w) (A:=A) (β:=β) (H:=H) cs cells'.toList (by simpa using g2) (by
  intro k v u hv hu
  exact g3 k v u hv (by simpa using hu))
 simpa using this
theorem fieldAddr_ok {k : V → Hp → R} {t : TypeId} {x : Operand} {i off size : Nat} {agg : Bool} {v : V} (ho : o.op = .fieldAddr t x i) (hf : fieldOf (E.ty t) i = some (off,size,agg)) (hv : (∃ p,evalV F x = .f p ∧ (∃ cs o,p = .eptr cs o) ∧ v = .f (fAddr p off)) ∨ ∃ id r o,evalV F x = .ptr id r o ∧ v = .ptr id r (o + off) ∧ there H id = true)
  (st : St L B0 G T w0 F H a w A β) (hn : Nxt L B0 G T w0 F a o next res k) (h : k v H = some res) : o.wp P a w next Q:=by
 unfold fieldOf at hf
 split at hf
 ·rename_i fs hk
  obtain ⟨fields,places,h1,h2,h3⟩:=struct_places hty hk
  obtain ⟨_,f,f1,f2,f3,f4,f5,f6⟩:=h3 i off size agg hf
  have hsz:=run_sizeOf w (hty f.type) f3
  have hrun : ∀ ad,a.eval x = .pointer (some ad) → (execOp a.eval o).run P w = .ok (.value (.pointer (some (ad.add off)))) w:=by
   intro ad had
   have hne : ¬ size = 0:=by omega
   simp [execOp,ho,had,Instr.fieldAt,run_underlying h1,f1,Instr.sureAddr,fieldPlace,hsz,f4,hne,f2]
  rcases hv with ⟨p,hp,⟨cs,oo,rfl⟩,rfl⟩ | ⟨id,r,oo,hp,rfl,hth⟩
  ·have hx:=(hp ▸ st.ev x).f'.1
   generalize hc : a.eval x = c at hx
   have hx':=hx
   cases hx with
   | eptr _ ad _ u hA hm h1' hx2 =>
    exact wp_val st hn h (.f _ _ (fAddr_rel rfl hx') rfl) (hrun _ hc)
  ·obtain ⟨b,o1,s,cap,hc,hb,hl⟩:=there_ptr hth (hp ▸ st.ev x)
   have hv2:=VR.ptr (w:=w) (A:=A) (β:=β) (H:=H) id r (oo + off) b o1 s cap hb hl
   refine wp_val st hn h (u:=.pointer (some ((⟨b,o1 + (r * s + oo),none⟩ : Addr).add off))) ?_ (hrun _ hc)
   have : (⟨b,o1 + (r * s + oo),none⟩ : Addr).add off = ⟨b,o1 + (r * s + (oo + off)),none⟩:=by
    unfold Addr.add
    split
    ·rename_i h0;subst h0;rfl
    ·simp [Nat.add_assoc]
   rw [this];exact hv2
 ·cases hf
omit hty in
theorem listSlice_get {α : Type} (l : List α) (off n k : Nat) : (listSlice l off n)[k]? = if k < n then l[off + k]? else none:=by
 unfold listSlice
 rw [List.getElem?_take]
 split
 ·rw [List.getElem?_drop]
 ·rfl
theorem field_ok {k : V → Hp → R} {t : TypeId} {x : Operand} {i off size : Nat} {agg : Bool} {cs : List V} {v : V} (ho : o.op = .field t x i) (hf : fieldOf (E.ty t) i = some (off,size,agg)) (hx : evalV F x = .agg cs)
  (hv : (agg = true ∧ v = .agg (listSlice cs off size) ∧ off + size ≤ cs.length) ∨ (agg = false ∧ cs[off]? = some v)) (st : St L B0 G T w0 F H a w A β) (hn : Nxt L B0 G T w0 F a o next res k) (h : k v H = some res) : o.wp P a w next Q:=by
 unfold fieldOf at hf
 split at hf
 ·rename_i fs hk
  obtain ⟨fields,places,h1,h2,h3⟩:=struct_places hty hk
  obtain ⟨_,f,f1,f2,f3,f4,f5,f6⟩:=h3 i off size agg hf
  have hsz:=run_sizeOf w (hty f.type) f3
  have hag:=run_isAgg w (hty f.type) f3
  have hxv:=hx ▸ st.ev x
  generalize hc : a.eval x = c at hxv
  cases hxv with
  | agg _ us hl hxx =>
   rcases hv with ⟨ha,rfl,hfit⟩ | ⟨ha,hv⟩
   ·subst ha
    refine wp_val st hn h (u:=.agg (us.toArray.extract off (off + size))) ?_ (by simp [execOp,ho,hc,Instr.field,run_underlying h1,f1,asAgg,part,hag,f5,hsz,f4,f2])
    have:=VR.agg (w:=w) (A:=A) (β:=β) (H:=H) (listSlice cs off size) (listSlice us off size) (by unfold listSlice;simp;omega) (by
     intro j y u hy hu
     rw [listSlice_get] at hy hu
     split at hy
     ·rename_i hj;rw [if_pos hj] at hu;exact hxx _ y u hy hu
     ·cases hy)
    have he : us.toArray.extract off (off + size) = (listSlice us off size).toArray:=by
     unfold listSlice
     simp [List.extract]
    rw [he];exact this
   ·subst ha
    have hlt : off < us.length:=by have:=(List.getElem?_eq_some_iff.1 hv).1;omega
    have hu : us[off]? = some us[off]:=List.getElem?_eq_getElem hlt
    refine wp_val st hn h (u:=us[off]) (hxx off v _ hv hu) ?_
    simp [execOp,ho,hc,Instr.field,run_underlying h1,f1,asAgg,part,hag,f5,f2,hlt]
 ·cases hf
omit hty in
theorem makeFunc_ok {k : V → Hp → R} {g : FuncId} {first captured : Array Operand} (ho : o.op = .makeFunc (.func g) first captured) (hf : first.toList = []) (st : St L B0 G T w0 F H a w A β) (hn : Nxt L B0 G T w0 F a o next res k)
  (h : k (.func g (captured.toList.map (evalV F))) H = some res) : o.wp P a w next Q:=by
 have hf' : first = #[]:=by rw [← Array.toArray_toList (xs:=first),hf]
 subst hf'
 refine wp_val st hn h (u:=.func (.func g) #[] (captured.map a.eval)) ?_ (by simp [execOp,ho,Instr.makeFunc])
 have:=VR.func (w:=w) (A:=A) (β:=β) (H:=H) g (captured.toList.map (evalV F)) (captured.toList.map a.eval) (by simp) (by
  intro j y u hy hu
  rw [List.getElem?_map] at hy hu
  cases hq : captured.toList[j]? with
  | none => rw [hq] at hy;cases hy
  | some p => rw [hq] at hy hu;cases hy;cases hu;exact st.ev p)
 have he : (captured.toList.map a.eval).toArray = captured.map a.eval:=by
  apply Array.ext';simp
 rw [he] at this;exact this
omit hty in
theorem extract_ok {k : V → Hp → R} {x : Operand} {i : Nat} {vs : List V} {v : V} (ho : o.op = .extract x i) (hx : evalV F x = .tup vs) (hv : vs[i]? = some v) (st : St L B0 G T w0 F H a w A β) (hn : Nxt L B0 G T w0 F a o next res k) (h : k v H = some res) : o.wp P a w next Q:=by
 have hxv:=hx ▸ st.ev x
 generalize hc : a.eval x = c at hxv
 cases hxv with
 | tup _ us hl hxx =>
  have hlt : i < us.length:=by have:=(List.getElem?_eq_some_iff.1 hv).1;omega
  refine wp_val st hn h (u:=us[i]) (hxx i v _ hv (List.getElem?_eq_getElem hlt)) ?_
  simp [execOp,ho,hc,Instr.extract,hlt]
theorem slice_ok {k : V → Hp → R} {t e : Nat} {x : Operand} {lo hi mx : Option Operand} {z : FV} (ho : o.op = .slice t x lo hi mx) (ht : (E.ty t).k = .slice e)
  (hcut : ∀ {A' : Nat → Prop} {c : Value},FExt w A w A' → FR w A' (frz H (evalV F x)) c → ∃ u,(Instr.sliceAt t c (lo.map a.eval) (hi.map a.eval) (mx.map a.eval)).run P w = .ok u w ∧ FR w A' z u ∧ u.oneCell' = true)
  (st : St L B0 G T w0 F H a w A β) (hn : Nxt L B0 G T w0 F a o next res k) (h : k (.f z) (marks H (evalV F x)) = some res) : o.wp P a w next Q:=by
 obtain ⟨A1,fe1,he1,hp1,hin⟩:=marks_rel st.hp (evalV F x)
 obtain ⟨u,h1,h2,h3⟩:=hcut fe1 (frz_rel st.hp fe1 (st.ev x) hin)
 exact wp_val' hn h (.f _ _ h2 h3) ⟨st.fr.mono fe1 he1,hp1,st.below⟩ (by simp only [execOp,ho,Sem.run_bind,h1];rfl)
omit hty in
theorem sliceAt_one {t e : Nat} (he : P.underlying t = some (.slice e)) {c : Value} {lo hi mx : Option Value} {u : Value} {w1 : World} (h : (Instr.sliceAt t c lo hi mx).run P w = .ok u w1) : u.oneCell' = true:=by
 have : ∃ x l r,u = .slice x l r:=by
  simp only [Instr.sliceAt,Sem.run_bind,run_underlying he,Result.andThen] at h
  cases c with
  | slice ad n cap =>
   simp only [Instr.slice,Sem.run_bind,run_underlying he,Result.andThen] at h
   generalize (Instr.sliceBounds true n cap lo hi mx).run P w = r at h
   cases r with
   | ok p w2 =>
    obtain ⟨l,r,m⟩:=p
    simp only at h
    generalize (Go.sizeOf e).run P w2 = r2 at h
    cases r2 with
    | ok s w3 => simp at h;exact ⟨_,_,_,h.1.symm⟩
    | halt q w3 => cases h
   | halt q w2 => cases h
  | _ => simp [Instr.slice,run_underlying he,stuck] at h
 obtain ⟨x,l,r,rfl⟩:=this
 rfl
end
end Go.Proofs.YtpffkpaiihcffaaGreatDoor.VM
