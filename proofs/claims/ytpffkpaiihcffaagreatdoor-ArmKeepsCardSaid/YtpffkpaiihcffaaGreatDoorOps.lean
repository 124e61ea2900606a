/- Operations of the abstract machine against the model's: what each leaves. -/
import Derived.Test.YtpffkpaiihcffaaGreatDoorSteps
set_option linter.unusedVariables false
set_option linter.unusedSimpArgs false
set_option linter.unusedSectionVars false
namespace Go.Proofs.YtpffkpaiihcffaaGreatDoor.VM
open Go Go.RowKit
section
variable {P : Program} {E : Env} {L : List (Fr × Act)} {B0 : Nat} {G T : Nat → Prop} {w0 w : World} {A : Nat → Prop} {β : LocOf} {H : Hp} {F : Fr} {a : Act} {o : Oper}
variable {next : Act → World → Prop} {Q : Exit → Act → World → Prop} {res : FV}
def Nxt (L : List (Fr × Act)) (B0 : Nat) (G T : Nat → Prop) (w0 : World) (F : Fr) (a : Act) (o : Oper) (next : Act → World → Prop) (res : FV) (k : V → Hp → R) : Prop :=
 ∀ v H' u w' A' β',k v H' = some res → VR w' A' β' H' v u → St L B0 G T w0 F H' a w' A' β' → next (a.put o.dst u) w'
theorem St.mono {w' : World} {A' : Nat → Prop} {β' : LocOf} {H' : Hp} (st : St L B0 G T w0 F H a w A β) (fe : FExt w A w' A') (he : HExt β H β' H') (hp : HRel B0 G T w' A' β' H') (hb : Belowx G B0 w0 w') : St L B0 G T w0 F H' a w' A' β' :=
 ⟨st.fr.mono fe he,hp,hb⟩
theorem St.ev (st : St L B0 G T w0 F H a w A β) (x : Operand) : VR w A β H (evalV F x) (a.eval x):=evalV_rel st.fr x
theorem St.below_grow {w' : World} (st : St L B0 G T w0 F H a w A β) (g : Grows w w') : Belowx G B0 w0 w':=g.below st.below st.hp.base
theorem St.below_turn {w' : World} (st : St L B0 G T w0 F H a w A β) {b : Nat} (hb : B0 ≤ b ∨ G b) (hos : w'.os = w.os) (ht : w'.tape = w.tape) (ho : w'.output = w.output) (hsz : w'.heap.size = w.heap.size) (hoth : ∀ b',b' ≠ b → w'.heap[b']? = w.heap[b']?) : Belowx G B0 w0 w' :=
 st.below.trans ⟨hos,ht,ho,by omega,fun k hk hg => hoth k (fun e => by subst e;rcases hb with h | h;omega;exact hg h)⟩
theorem wp_val {k : V → Hp → R} (st : St L B0 G T w0 F H a w A β) (hn : Nxt L B0 G T w0 F a o next res k) {v : V} {u : Value} (hk : k v H = some res) (hv : VR w A β H v u)
  (hr : (execOp a.eval o).run P w = .ok (.value u) w) : o.wp P a w next Q:=by
 unfold Oper.wp;rw [hr];exact hn v H u w A β hk hv st
theorem wp_val' {k : V → Hp → R} {w' : World} {A' : Nat → Prop} {β' : LocOf} {H' : Hp} (hn : Nxt L B0 G T w0 F a o next res k) {v : V} {u : Value} (hk : k v H' = some res) (hv : VR w' A' β' H' v u) (st : St L B0 G T w0 F H' a w' A' β')
  (hr : (execOp a.eval o).run P w = .ok (.value u) w') : o.wp P a w next Q:=by
 unfold Oper.wp;rw [hr];exact hn v H' u w' A' β' hk hv st
theorem wp_skp {k : V → Hp → R} {w' : World} {A' : Nat → Prop} {β' : LocOf} {H' : Hp} (hn : Nxt L B0 G T w0 F a o next res k) (hk : k .un H' = some res) (st : St L B0 G T w0 F H' a w' A' β')
  (hr : (execOp a.eval o).run P w = .ok .skip w') : o.wp P a w next Q:=by
 unfold Oper.wp;rw [hr];exact hn .un H' undef w' A' β' hk (.un _) st
theorem VR.f' {x : FV} {c : Value} (h : VR w A β H (.f x) c) : FR w A x c ∧ c.oneCell' = true:=by cases h;exact ⟨‹_›,‹_›⟩
theorem FR_bool {b : Bool} {c : Value} (h : FR w A (.bool b) c) : c = .bool b:=by cases h;rfl
theorem cellsV_rel {agg : Bool} {v : V} {c : Value} {vs : List V} (h : cellsV agg v = some vs) (hv : VR w A β H v c) (hc : agg = false → c.oneCell' = true → c.cells = #[c]) :
  c.cells.toList.length = vs.length ∧ (∀ (k : Nat) x u,vs[k]? = some x → c.cells.toList[k]? = some u → VR w A β H x u) ∧ (∀ u ∈ c.cells.toList,u.oneCell' = true) ∧ (∀ x ∈ vs,isOne x = true) ∧ (agg = true → ∃ cs,c = .agg cs):=by
 unfold cellsV at h
 split at h
 ·split at h
  ·rename_i cs
   split at h
   ·rename_i hone
    cases h
    cases hv with
    | agg cells us hl hx =>
     refine ⟨by simp [Value.cells,hl],?_,?_,fun x hx => List.all_eq_true.1 hone x hx,fun _ => ⟨_,rfl⟩⟩
     ·intro k x u h1 h2
      simp only [Value.cells,List.toList_toArray] at h2
      exact hx k x u h1 h2
     ·simp only [Value.cells,List.toList_toArray]
      exact ones hl hx hone
   ·cases h
  ·cases h
 ·split at h
  ·rename_i hone
   cases h
   have h1:=hv.one hone
   have h2:=hc rfl h1
   rw [h2]
   refine ⟨rfl,?_,?_,?_,fun h => by cases h⟩
   ·intro k x u h3 h4
    cases k with
    | zero => cases h3;cases h4;exact hv
    | succ k => cases h3
   ·intro u hu;simp at hu;subst hu;exact h1
   ·intro x hx;simp at hx;subst hx;exact hone
  ·cases h
theorem cells_one {c : Value} (h : c.oneCell' = true) : c.cells = #[c]:=by cases c <;> first | rfl | cases h
theorem run_newVar (t : TypeId) (c : Value) : (newVar t c).run P w = .ok ⟨w.heap.size,0,none⟩ (w.alloc (.cells c.cells t)):=by
 simp [newVar,newRow,World.alloc_eq]
theorem newB_some {α : Type} {H : Hp} {nid : Nat} {b : Blk} {k : Hp → Option α} {r : α} (h : newB H nid b k = some r) : H[nid]? = some .free ∧ k (H.set nid b) = some r:=by
 unfold newB at h
 split at h
 ·exact ⟨by assumption,h⟩
 ·cases h
theorem HRel.not_new (hp : HRel B0 G T w A β H) {b : Nat} (hb : w.heap.size ≤ b) : ¬ A b ∧ ∀ id b' o' s' cap' k',H[id]? = some k' → k'.alive = true → β id = .at b' o' s' cap' → b' ≠ b:=by
 refine ⟨fun hA => by have:=hp.lt b hA;omega,?_⟩
 intro id b' o' s' cap' k' hk hal hl' e
 subst e
 have:=(hp.blk id k' hk).block_lt hp.lt (by intro e;subst e;cases hal) _ (by rw [hl'];rfl)
 omega
theorem fill_box {id : Nat} (hf : H[id]? = some .free) (st : St L B0 G T w0 F H a w A β) {vs : List V} {cs : Array Value} (t : TypeId) (hl : cs.toList.length = vs.length) (hx : ∀ (k : Nat) x u,vs[k]? = some x → cs.toList[k]? = some u → VR w A β H x u)
  (h1 : ∀ u ∈ cs.toList,u.oneCell' = true) (h2 : ∀ x ∈ vs,isOne x = true) :
  ∃ β',VR (w.alloc (.cells cs t)) A β' (H.set id (.box vs)) (.ptr id 0 0) (.pointer (some ⟨w.heap.size,0,none⟩)) ∧ St L B0 G T w0 F (H.set id (.box vs)) a (w.alloc (.cells cs t)) A β':=by
 have g:=Grows.alloc w (.cells cs t)
 have hn : β id = .no:=st.hp.blk id _ hf
 have fe:=g.fext (A:=A) st.hp.lt
 have hnew : (w.alloc (.cells cs t)).heap[w.heap.size]? = some (.cells cs t (0,0)):=heap_alloc_new w _
 have he0:=HExt.fill hf hn (.box vs) (.at w.heap.size 0 vs.length 1)
 obtain ⟨he,hp⟩:=(st.hp.grow g (fun _ h => h) (fun _ h => .inl h)).fill (k:=.box vs) (l:=.at w.heap.size 0 vs.length 1) hf (by
   refine ⟨w.heap.size,vs.length,rfl,rfl,⟨cs,t,hnew,by rw [← hl];simp⟩,fun k v hv => ?_⟩
   have hk : k < cs.toList.length:=by rw [hl];exact (List.getElem?_eq_some_iff.1 hv).1
   refine ⟨cs.toList[k],?_,h1 _ (List.getElem_mem hk),h2 v (List.mem_of_getElem? hv),(hx k v _ hv (List.getElem?_eq_getElem hk)).mono fe he0⟩
   rw [cell_at hnew]
   simp at hk
   simp [hk]) (by
   intro b o s cap hb ha
   cases hb
   obtain ⟨q1,q2⟩:=st.hp.not_new (Nat.le_refl _)
   exact ⟨.inl st.hp.base,q1,q2⟩)
 refine ⟨_,?_,⟨st.fr.mono fe he,hp,st.below_grow g⟩⟩
 have:=VR.ptr (w:=w.alloc (.cells cs t)) (A:=A) (β:=locSet β id (.at w.heap.size 0 vs.length 1)) (H:=H.set id (.box vs)) id 0 0 w.heap.size 0 vs.length 1 (locSet_new _ _ _) (by simpa using (List.getElem?_eq_some_iff.1 hf).1)
 simpa using this
theorem there_ptr {id i off : Nat} {c : Value} (h : there H id = true) (hv : VR w A β H (.ptr id i off) c) : ∃ b o s cap,c = .pointer (some ⟨b,o + (i * s + off),none⟩) ∧ β id = .at b o s cap ∧ id < H.length:=by
 cases hv with
 | ptr id i off b o s cap h1 h2 => exact ⟨b,o,s,cap,rfl,h1,h2⟩
 | ptrDead id i off c h1 => rw [there,h1] at h;cases h
theorem boxAdd (b s o off : Nat) : (⟨b,0 + (0 * s + o),none⟩ : Addr).add off = ⟨b,o + off,none⟩:=by
 unfold Addr.add
 split
 ·rename_i h0;subst h0;simp
 ·simp
theorem ldCell_rel {p : V} {c : Value} {off : Nat} {k : V → R} (hv : VR w A β H p c) (hp : HRel B0 G T w A β H) (h : ldCell H p off k = some res) :
  ∃ ad u x,c = .pointer (some ad) ∧ w.cell? (ad.add off) = some u ∧ u.oneCell' = true ∧ isOne x = true ∧ VR w A β H x u ∧ k x = some res:=by
 unfold ldCell at h
 split at h
 ·rename_i x
  obtain ⟨z,h1,h2⟩:=bindO_some h
  obtain ⟨ad,u,rfl,h3,h4,h5⟩:=fLd_rel h1 hv.f'.1
  exact ⟨ad,u,.f z,rfl,h3,h4,rfl,.f _ _ h5 h4,h2⟩
 ·rename_i id i o
  have rowcase : ∀ (r : List (List FV)),H[id]? ≠ some .dead → (∀ b o s cap,β id = .at b o s cap → RowsAt w A b o s r) → bindO (rGet r i (o + off)) (fun c => k (.f c)) = some res →
    ∃ ad u x,c = .pointer (some ad) ∧ w.cell? (ad.add off) = some u ∧ u.oneCell' = true ∧ isOne x = true ∧ VR w A β H x u ∧ k x = some res:=by
   intro r hd hr h
   obtain ⟨z,h1,h2⟩:=bindO_some h
   unfold rGet at h1
   obtain ⟨row,h3,h4⟩:=bindO_some h1
   cases hv with
   | ptr _ _ _ b o1 s cap h5 h6 =>
    obtain ⟨u,g1,g2,g3⟩:=(hr b o1 s cap h5).2 i row (o + off) z h3 h4
    refine ⟨⟨b,o1 + (i * s + o),none⟩,u,.f z,rfl,?_,g2,rfl,.f _ _ g3 g2,h2⟩
    have : (⟨b,o1 + (i * s + o),none⟩ : Addr).add off = ⟨b,o1 + (i * s + (o + off)),none⟩:=by
     unfold Addr.add
     split
     ·rename_i h0;subst h0;rfl
     ·simp [Nat.add_assoc]
    rw [this];exact g1
   | ptrDead _ _ _ c h5 => exact absurd h5 hd
  split at h
  ·rename_i cs hk
   split at h
   ·split at h
    ·rename_i v hv2
     cases hv with
     | ptr _ _ _ b o1 s cap h5 h6 =>
      obtain ⟨b2,s2,h7,h8,⟨c,e,h9,h10⟩,h11⟩:=hp.blk id _ hk
      rw [h5] at h7;cases h7
      obtain ⟨u,g1,g2,g3,g4⟩:=h11 (o + off) v hv2
      refine ⟨_,u,v,rfl,?_,g2,g3,g4,h⟩
      rw [boxAdd];exact g1
     | ptrDead _ _ _ c h5 => rw [hk] at h5;cases h5
    ·cases h
   ·cases h
  ·rename_i cs hk
   split at h
   ·split at h
    ·rename_i x hv2
     cases hv with
     | ptr _ _ _ b o1 s cap h5 h6 =>
      obtain ⟨b2,s2,h7,h8,h11⟩:=hp.blk id _ hk
      rw [h5] at h7;cases h7
      obtain ⟨u,g1,g2,g3⟩:=h11 (o + off) x hv2
      refine ⟨_,u,.f x,rfl,?_,g2,rfl,.f _ _ g3 g2,h⟩
      rw [boxAdd];exact g1
     | ptrDead _ _ _ c h5 => rw [hk] at h5;cases h5
    ·cases h
   ·cases h
  ·rename_i s0 r hk
   exact rowcase r (by rw [hk];simp) (fun b o1 s cap hl => by
    rcases hp.blk id _ hk with ⟨h1,_⟩ | ⟨b2,o2,cap2,h1,_,_,_,h2,_⟩
    ·rw [h1] at hl;cases hl
    ·rw [h1] at hl;cases hl;exact h2) h
  ·rename_i r hk
   exact rowcase r (by rw [hk];simp) (fun b o1 s cap hl => by
    rcases hp.blk id _ hk with ⟨h1,_⟩ | ⟨b2,o2,s2,cap2,h1,_,_,h2,_⟩
    ·rw [h1] at hl;cases hl
    ·rw [h1] at hl;cases hl;exact h2) h
  ·rename_i r hk
   exact rowcase r (by rw [hk];simp) (fun b o1 s cap hl => by
    rcases hp.blk id _ hk with ⟨h1,_⟩ | ⟨b2,o2,s2,cap2,h1,_,_,h2,_⟩
    ·rw [h1] at hl;cases hl
    ·rw [h1] at hl;cases hl;exact h2) h
  ·cases h
 ·cases h
variable (hty : TyOk P E.ty)
include hty
theorem alloc_ok {k : V → Hp → R} {t : TypeId} (ho : o.op = .alloc t) (hk : (E.ty t).known = true) (st : St L B0 G T w0 F H a w A β) (hn : Nxt L B0 G T w0 F a o next res k)
  {nid : Nat} (h : (newB H nid (.box ((E.ty t).zero.map .f)) fun H => k (.ptr nid 0 0) H) = some res) : o.wp P a w next Q:=by
 obtain ⟨hf,h⟩:=newB_some h
 obtain ⟨z,h1,h2,h3,h4,h5⟩:=run_zeroValue w (hty t) hk
 have hz : ∀ u ∈ z.cells.toList,u.oneCell' = true:=fun u hu => by
  have:=Array.all_eq_true.1 h4
  obtain ⟨i,hi,rfl⟩:=List.mem_iff_getElem.1 hu
  simp at hi
  simpa using this i hi
 obtain ⟨β',hv,st'⟩:=fill_box (vs:=(E.ty t).zero.map .f) (cs:=z.cells) hf st t (by rw [← h2];simp) (by
  intro i x u hx hu
  rw [← h2,List.map_map,List.getElem?_map,hu] at hx
  simp at hx
  subst hx
  exact .f _ _ (constF_rel w A u) (hz u (List.mem_of_getElem? hu))) hz (by intro x hx;simp at hx;obtain ⟨y,_,rfl⟩:=hx;rfl)
 refine wp_val' hn h hv st' ?_
 simp [execOp,ho,Instr.alloc,h1,run_newVar]
theorem box_ok {k : V → Hp → R} {t : TypeId} {x : Operand} {vs : List V} (ho : o.op = .box t x) (hk : (E.ty t).known = true) (hc : cellsV (E.ty t).isAgg (evalV F x) = some vs) (st : St L B0 G T w0 F H a w A β) (hn : Nxt L B0 G T w0 F a o next res k)
  {nid : Nat} (h : (newB H nid (.box vs) fun H => k (.ptr nid 0 0) H) = some res) : o.wp P a w next Q:=by
 obtain ⟨hf,h⟩:=newB_some h
 obtain ⟨c1,c2,c3,c4,_⟩:=cellsV_rel hc (st.ev x) (fun _ h => cells_one h)
 obtain ⟨β',hv,st'⟩:=fill_box hf st t c1 c2 c3 c4
 refine wp_val' hn h hv st' ?_
 simp [execOp,ho,Instr.box,run_newVar]
theorem move_ok {k : V → Hp → R} {x : Operand} (ho : o.op = .move x ∨ o.op = .assign x) (st : St L B0 G T w0 F H a w A β) (hn : Nxt L B0 G T w0 F a o next res k) (h : k (evalV F x) H = some res) : o.wp P a w next Q:=by
 refine wp_val st hn h (st.ev x) ?_
 rcases ho with ho | ho <;> simp [execOp,ho]
theorem binOp_ok {k : V → Hp → R} {op : BinOp} {xt yt : TypeId} {x y : Operand} {p q z : FV} (ho : o.op = .binOp op xt x y yt) (hx : evalV F x = .f p) (hy : evalV F y = .f q) (hz : fBin op p q = some z)
  (st : St L B0 G T w0 F H a w A β) (hn : Nxt L B0 G T w0 F a o next res k) (h : k (.f z) H = some res) : o.wp P a w next Q:=by
 have hp:=hx ▸ st.ev x
 have hq:=hy ▸ st.ev y
 obtain ⟨e,h1,h2⟩:=fBin_run (P:=P) xt x y hz hp.f'.1 hq.f'.1
 refine wp_val st hn h (.f _ _ h2 ?_) (by simp only [execOp,ho];rw [Sem.run_bind,h1];rfl)
 unfold fBin at hz
 cases h2 <;> first | rfl | (exfalso;cases op <;> simp at hz <;> (repeat' split at hz) <;> simp_all [intBin])
theorem boolBin_ok {k : V → Hp → R} {op : BinOp} {xt yt : TypeId} {x y : Operand} {p q z : FV} (ho : o.op = .binOp op xt x y yt) (ht : (E.ty xt).k = .bool) (hx : evalV F x = .f p) (hy : evalV F y = .f q) (hz : fBoolBin op p q = some z)
  (st : St L B0 G T w0 F H a w A β) (hn : Nxt L B0 G T w0 F a o next res k) (h : k (.f z) H = some res) : o.wp P a w next Q:=by
 have hp:=hx ▸ st.ev x
 have hq:=hy ▸ st.ev y
 have hb : P.underlying xt = some .bool:=by have:=(hty xt).k;rw [ht] at this;exact this
 obtain ⟨e,h1,h2⟩:=fBoolBin_run (P:=P) xt hb x y hz hp.f'.1 hq.f'.1
 refine wp_val st hn h (.f _ _ h2 ?_) (by simp only [execOp,ho];rw [Sem.run_bind,h1];rfl)
 unfold fBoolBin at hz
 split at hz <;> cases hz <;> cases h2 <;> rfl
theorem unOp_ok {k : V → Hp → R} {op : UnOp} {xt : TypeId} {x : Operand} {p z : FV} (ho : o.op = .unOp op xt x) (hx : evalV F x = .f p) (hz : fUn op p = some z)
  (st : St L B0 G T w0 F H a w A β) (hn : Nxt L B0 G T w0 F a o next res k) (h : k (.f z) H = some res) : o.wp P a w next Q:=by
 have hp:=hx ▸ st.ev x
 obtain ⟨e,h1,h2⟩:=fUn_run (P:=P) hz hp.f'.1
 refine wp_val st hn h (.f _ _ h2 ?_) (by simp only [execOp,ho];rw [Sem.run_bind,h1];rfl)
 unfold fUn at hz
 split at hz <;> cases hz <;> cases h2 <;> rfl
theorem pick_ok {k : V → Hp → R} {c x y : Operand} {b : Bool} {v : V} (ho : o.op = .pick c x y) (hc : evalV F c = .f (.bool b)) (hv : v = if b then evalV F x else evalV F y)
  (st : St L B0 G T w0 F H a w A β) (hn : Nxt L B0 G T w0 F a o next res k) (h : k v H = some res) : o.wp P a w next Q:=by
 have hb:=FR_bool (hc ▸ st.ev c).f'.1
 refine wp_val st hn h (u:=if b then a.eval x else a.eval y) ?_ (by simp only [execOp,ho,hb,asBool];cases b <;> rfl)
 subst hv
 cases b
 ·exact st.ev y
 ·exact st.ev x
theorem nilPtr_ok {k : V → Hp → R} {x : Operand} {id i off : Nat} (ho : o.op = .nilCheck x) (hx : evalV F x = .ptr id i off) (ht : there H id = true)
  (st : St L B0 G T w0 F H a w A β) (hn : Nxt L B0 G T w0 F a o next res k) (h : k (.ptr id i off) H = some res) : o.wp P a w next Q:=by
 have hp:=hx ▸ st.ev x
 obtain ⟨b,o1,s,cap,h1,h2,h3⟩:=there_ptr ht hp
 exact wp_val st hn h hp (by simp only [execOp,ho,h1];rfl)
theorem nilFunc_ok {k : V → Hp → R} {x : Operand} {g : Nat} {cs : List V} (ho : o.op = .nilCheck x) (hx : evalV F x = .func g cs)
  (st : St L B0 G T w0 F H a w A β) (hn : Nxt L B0 G T w0 F a o next res k) (h : k (.func g cs) H = some res) : o.wp P a w next Q:=by
 have hp:=hx ▸ st.ev x
 generalize hc : a.eval x = c at hp
 have hp':=hp
 cases hp with
 | func _ _ vs hl2 hx2 => exact wp_val st hn h hp' (by simp only [execOp,ho,hc];rfl)
end
end Go.Proofs.YtpffkpaiihcffaaGreatDoor.VM
