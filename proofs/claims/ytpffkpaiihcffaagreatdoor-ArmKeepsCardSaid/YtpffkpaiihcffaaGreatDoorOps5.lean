/- Operations, continued: new rows, cuts, fields, indices. -/
import Derived.Test.YtpffkpaiihcffaaGreatDoorOps4
set_option linter.unusedVariables false
set_option linter.unusedSimpArgs false
set_option linter.unusedSectionVars false
namespace Go.Proofs.YtpffkpaiihcffaaGreatDoor.VM
open Go Go.RowKit
section
variable {P : Program} {E : Env} {L : List (Fr × Act)} {B0 : Nat} {G T : Nat → Prop} {w0 w w' : World} {A : Nat → Prop} {β : LocOf} {H : Hp} {F : Fr} {a : Act} {o : Oper}
variable {next : Act → World → Prop} {Q : Exit → Act → World → Prop} {res : FV}
variable (hty : TyOk P E.ty)
theorem run_builtin {c : Call} {b : Builtin} (ho : o.op = .call c) (hc : c.callee = .builtin b) : ∃ cs,(execOp a.eval o).run P w = (invoke (.builtin b c.argTypes o.type cs) (c.args.map a.eval)).run P w:=by
 simp only [execOp,ho,resolve,hc,Sem.run_bind,Sem.run_pure,Result.andThen]
 exact ⟨_,rfl⟩
theorem args_eq {c : Call} {x y : V} (hx : c.args.toList.map (evalV F) = [x,y]) : ∃ p q,c.args = #[p,q] ∧ evalV F p = x ∧ evalV F q = y:=by
 obtain ⟨l,hl⟩ : ∃ l,c.args.toList = l:=⟨_,rfl⟩
 rw [hl] at hx
 match l,hl,hx with
 | [p,q],hl,hx =>
  simp at hx
  exact ⟨p,q,by rw [← Array.toArray_toList (xs:=c.args),hl],hx.1,hx.2⟩
 | [],_,hx => cases hx
 | [_],_,hx => simp at hx
 | _ :: _ :: _ :: _,_,hx => simp at hx
theorem args_eq1 {c : Call} {x : V} (hx : c.args.toList.map (evalV F) = [x]) : ∃ p,c.args = #[p] ∧ evalV F p = x:=by
 obtain ⟨l,hl⟩ : ∃ l,c.args.toList = l:=⟨_,rfl⟩
 rw [hl] at hx
 match l,hl,hx with
 | [p],hl,hx =>
  simp at hx
  exact ⟨p,by rw [← Array.toArray_toList (xs:=c.args),hl],hx⟩
 | [],_,hx => cases hx
 | _ :: _ :: _,_,hx => simp at hx
include hty
theorem append_ok {k : V → Hp → R} {c : Call} {t tx e nid : Nat} {isStr : Bool} {s x : V} (ho : o.op = .call c) (hc : c.callee = .builtin .append) (hts : c.argTypes.toList = [t,tx]) (ht : (E.ty t).k = .slice e)
  (htx : isStr = true → P.underlying tx = some .string) (htx' : isStr = false → ∃ e',P.underlying tx = some (.slice e')) (hargs : c.args.toList.map (evalV F) = [s,x])
  (st : St L B0 G T w0 F H a w A β) (hn : Nxt L B0 G T w0 F a o next res k) (h : appendK E nid H e isStr s x k = some res) : o.wp P a w next Q:=by
 obtain ⟨p,q,h1,rfl,rfl⟩:=args_eq hargs
 obtain ⟨v,u,w',A',β',H',hr,hk,hv,st'⟩:=append_core hty (ty:=o.type) ht htx htx' (st.ev p) (st.ev q) st h
 refine wp_val' hn hk hv st' ?_
 have h2 : c.argTypes = #[t,tx]:=by rw [← Array.toArray_toList (xs:=c.argTypes),hts]
 obtain ⟨cs,h3⟩:=run_builtin (P:=P) (w:=w) (a:=a) ho hc
 rw [h3,h1,h2]
 simp [invoke,builtin,hr]
theorem makeSlice_ok {k : V → Hp → R} {t e nid n m : Nat} {l c : Operand} {x y : FV} (ho : o.op = .makeSlice t l c) (ht : (E.ty t).k = .slice e) (hl : evalV F l = .f x) (hc : evalV F c = .f y) (hn1 : asNat x = some n) (hm1 : asNat y = some m)
  (hle : n ≤ m) (hroom : m * (E.ty e).bytes ≤ room) (st : St L B0 G T w0 F H a w A β) (hn : Nxt L B0 G T w0 F a o next res k)
  (h : (newB H nid (.own (E.ty e).size (List.replicate n (E.ty e).zero)) fun H => k (.ref nid) H) = some res) : o.wp P a w next Q:=by
 obtain ⟨hf,h⟩:=newB_some h
 have hfact:=(hty t).k
 rw [ht] at hfact
 obtain ⟨hte,hek,hsz,hby⟩:=hfact
 obtain ⟨i,z,i1,i2,i3,i4,i5,i6,i7,_⟩:=(hty e).info hek
 obtain ⟨k1,l',hle1,h0,hl2⟩:=asNat_rel hn1 (hl ▸ st.ev l).f'.1
 obtain ⟨k2,c',hce1,h0',hc2⟩:=asNat_rel hm1 (hc ▸ st.ev c).f'.1
 have hmr : m ≤ room:=by
  have:=Nat.mul_le_mul_left m hby
  omega
 have hbytes : (i.bytes : Int) * c' ≤ 281474976710656:=by
  have h3 : i.bytes * m ≤ 281474976710656:=by rw [i3,Nat.mul_comm];unfold room at hroom;omega
  have h4 : c' = (m : Int):=by omega
  rw [h4,← Int.natCast_mul];omega
 have hrun:=run_make (P:=P) w t e i z hte i1 i4 k1 k2 l' c' h0 (by omega) hbytes (by unfold room at hmr;omega)
 rw [hl2,hc2,i2] at hrun
 obtain ⟨β',hv,st'⟩:=fill_own (s:=(E.ty e).size) (rows:=List.replicate n (E.ty e).zero) (cap:=m) (cells:=madeCells z.cells (m * (E.ty e).size)) e hf st (Grows.refl w) hsz (by
   intro r hr;rw [(List.mem_replicate.1 hr).2,← i5];simp [i6]) (by simpa using hle) (by unfold maxLen;unfold room at hmr;omega) rfl (size_madeCells _ _) (by
   intro j r q x hr hx
   have hj : j < n:=by have:=(List.getElem?_eq_some_iff.1 hr).1;simpa using this
   rw [List.getElem?_replicate,if_pos hj] at hr
   cases hr
   have hq : q < (E.ty e).size:=by have:=(List.getElem?_eq_some_iff.1 hx).1;rw [← i5] at this;simpa [i6] using this
   have hz : q < z.cells.size:=by omega
   rw [← i5,List.getElem?_map,List.getElem?_eq_getElem (by simpa using hz)] at hx
   simp only [Option.map_some,Option.some.injEq] at hx
   refine ⟨z.cells[q],?_,Array.all_eq_true.1 i7 q hz,?_⟩
   ·have hlt:=cell_lt hq (Nat.lt_of_lt_of_le hj hle)
    unfold madeCells
    rw [Array.getElem?_map,Array.getElem?_range,if_pos hlt]
    have hmod : (j * (E.ty e).size + q) % z.cells.size = q:=by rw [i6,Nat.mul_comm,Nat.mul_add_mod,Nat.mod_eq_of_lt hq]
    simp [hmod,getElem!_pos,hz]
   ·rw [← hx]
    simpa using constF_rel w A z.cells[q])
 rw [List.length_replicate] at hv
 refine wp_val' hn h hv st' ?_
 simp [execOp,ho,hle1,hce1,hrun]
omit hty in
theorem zeroCells_get {z : Array Value} {n m j q : Nat} (hj : j < n) (hq : q < z.size) : (Builtin.zeroCells z n ++ Builtin.zeroCells z m)[j * z.size + q]? = some z[q]:=by
 have hlt : j * z.size + q < n * z.size:=by
  have:=Nat.mul_le_mul_right z.size (show j + 1 ≤ n from hj)
  rw [Nat.add_mul] at this
  omega
 rw [Array.getElem?_append,if_pos (by rw [size_zeroCells];exact hlt)]
 unfold Builtin.zeroCells
 rw [Array.getElem?_map,Array.getElem?_range,if_pos hlt]
 have hmod : (j * z.size + q) % z.size = q:=by rw [Nat.mul_comm,Nat.mul_add_mod,Nat.mod_eq_of_lt hq]
 simp [hmod,getElem!_pos,hq]
omit hty in
theorem wrap_room {n : Int} (h0 : 0 ≤ n) (h1 : n ≤ 9223372036854775807) : IntKind.i64.wrap n = n:=by
 simp [IntKind.wrap,IntKind.bits,IntKind.signed]
 split <;> omega
omit hty in
theorem run_append_zeros0 {t tx ty e : TypeId} {kk kx : IntKind} (i : TypeInfo) (ht : P.underlying t = some (.slice e)) (hx : P.underlying tx = some (.int kx)) (hi : P.info? e = some i) (base : Option Addr) :
  (Builtin.append_ #[t,tx] ty #[.slice base 0 0,.int kk 0]).run P w = .ok (.slice base 0 0) w:=by
 have h0 : IntKind.i64.wrap 0 = 0:=wrap_room (by omega) (by omega)
 have ha : (Go.asInt (.int kk 0)).run P w = .ok 0 w:=by simp [Go.asInt,asIntOf]
 cases base <;> simp [Builtin.append_,run_underlying ht,run_underlying hx,sizeOf,typeInfo,hi,ha,h0,storeCells]
omit hty in
theorem run_append_zeros {t tx ty e : TypeId} {kk kx : IntKind} (i : TypeInfo) (z : Value) (ht : P.underlying t = some (.slice e)) (hx : P.underlying tx = some (.int kx)) (hi : P.info? e = some i) (hz : i.zero = some z) (base : Option Addr) (n : Nat) (hn : 0 < n) (hs : 0 < i.size) (h63 : (n : Int) ≤ 9223372036854775807)
  (hby : n * i.bytes ≤ 281474976710656) (hfit : Builtin.nextslicecap n 0 * i.bytes ≤ 281474976710656) :
  (Builtin.append_ #[t,tx] ty #[.slice base 0 0,.int kk n]).run P w =
   .ok (.slice (some ⟨w.heap.size,0,none⟩) n (grownCap w n 0 e)) (w.drew.alloc (.cells (Builtin.zeroCells z.cells n ++ Builtin.zeroCells z.cells (grownCap w n 0 e - n)) e)):=by
 have h0 : IntKind.i64.wrap (n : Int) = (n : Int):=wrap_room (by omega) h63
 have ha : (Go.asInt (.int kk (n : Int))).run P w = .ok (n : Int) w:=by simp [Go.asInt,asIntOf]
 have h1 : ¬ ((n : Int) < 0):=by omega
 have h2 : ¬ (281474976710656 < (n : Int) * (i.bytes : Int)):=by rw [← Int.natCast_mul];omega
 have h3 : ¬ (n = 0):=by omega
 have h4 : ¬ (9223372036854775807 < (n : Int)):=by omega
 have h5 : ¬ (281474976710656 < Builtin.nextslicecap n 0 * i.bytes):=by omega
 have h6 : ¬ (i.size = 0):=by omega
 have hf : ∀ b : Option Addr,(Builtin.firstCells i.size 0 (.slice b 0 0)).run P w.drew = .ok #[] w.drew:=fun b => by
  cases b with
  | none => exact run_firstCells_none w.drew _ 0 0 0
  | some ad => exact run_firstCells_some w.drew _ 0 ad 0 0 [] (by simp) (by simp)
 simp [Builtin.append_,run_underlying ht,run_underlying hx,sizeOf,typeInfo,zeroValue,hi,hz,ha,h0,h1,h2,h3,h4,h5,h6,Question.forced,hf,newRow,grownCap]
 intro hz0
 have:=Nat.mul_pos hn hs
 omega
theorem appendZ_ok {k : V → Hp → R} {c : Call} {t tx e nid n : Nat} {kx : IntKind} {y x : FV} (ho : o.op = .call c) (hc : c.callee = .builtin .append) (hts : c.argTypes.toList = [t,tx]) (ht : (E.ty t).k = .slice e) (hx : P.underlying tx = some (.int kx)) (hargs : c.args.toList.map (evalV F) = [.f y,.f x])
  (hy : y = .nilS) (hn1 : asNat x = some n) (hroom : n * (E.ty e).bytes ≤ room) (st : St L B0 G T w0 F H a w A β) (hn : Nxt L B0 G T w0 F a o next res k)
  (h : (newB H nid (.own (E.ty e).size (List.replicate n (E.ty e).zero)) fun H => k (.ref nid) H) = some res) : o.wp P a w next Q:=by
 obtain ⟨p,q,h1,hp,hq⟩:=args_eq hargs
 subst hy
 obtain ⟨hf,h⟩:=newB_some h
 have hfact:=(hty t).k
 rw [ht] at hfact
 obtain ⟨hte,hek,hsz,hby⟩:=hfact
 obtain ⟨i,z,i1,i2,i3,i4,i5,i6,i7,_⟩:=(hty e).info hek
 have hv1:=(hp ▸ st.ev p).f'.1
 obtain ⟨k1,l',hle1,h0,hl2⟩:=asNat_rel hn1 (hq ▸ st.ev q).f'.1
 have hmr : n ≤ room:=by
  have:=Nat.mul_le_mul_left n hby
  omega
 have hln : l' = (n : Int):=by omega
 have h2 : c.argTypes = #[t,tx]:=by rw [← Array.toArray_toList (xs:=c.argTypes),hts]
 obtain ⟨cs,h3⟩:=run_builtin (P:=P) (w:=w) (a:=a) ho hc
 generalize hpu : a.eval p = u at hv1
 cases hv1 with
 | nilS base =>
  by_cases hz : n = 0
  ·subst hz
   obtain ⟨β',hv,st'⟩:=fill_nil (s:=(E.ty e).size) hf st base
   refine wp_val' hn h hv st' ?_
   rw [h3,h1,h2]
   simp only [invoke,builtin,Array.map,hpu,hle1,hln]
   have:=run_append_zeros0 (P:=P) (w:=w) (ty:=o.type) (kk:=k1) i hte hx i1 base
   simp [invoke,builtin,hpu,hle1,hln,this]
  ·have hfits:=growslice_fits (need:=n) (old:=0) (bytes:=i.bytes) (by omega) (by rw [i3];exact hroom)
   have hgc:=grownCap_ge w n 0 e
   have hgm:=grownCap_le_maxLen w n 0 e (by unfold maxLen;unfold room at hmr;omega)
   have hrun:=run_append_zeros (P:=P) (w:=w) (ty:=o.type) (kk:=k1) i z hte hx i1 i4 base n (by omega) (by omega) (by unfold room at hmr;omega) (by rw [i3];unfold room at hroom;omega) hfits
   obtain ⟨β',hv,st'⟩:=fill_own (s:=(E.ty e).size) (rows:=List.replicate n (E.ty e).zero) (cap:=grownCap w n 0 e) (W:=w.drew.alloc (.cells (Builtin.zeroCells z.cells n ++ Builtin.zeroCells z.cells (grownCap w n 0 e - n)) e)) (cells:=Builtin.zeroCells z.cells n ++ Builtin.zeroCells z.cells (grownCap w n 0 e - n)) e hf st (Grows.drew w) hsz (by
    intro r hr;rw [(List.mem_replicate.1 hr).2,← i5];simp [i6]) (by simpa using hgc) hgm rfl (by
    rw [Array.size_append,size_zeroCells,size_zeroCells,i6,← Nat.add_mul];congr 1;omega) (by
    intro j r q x hr hx
    have hj : j < n:=by have:=(List.getElem?_eq_some_iff.1 hr).1;simpa using this
    rw [List.getElem?_replicate,if_pos hj] at hr
    cases hr
    have hq : q < (E.ty e).size:=by have:=(List.getElem?_eq_some_iff.1 hx).1;rw [← i5] at this;simpa [i6] using this
    have hz : q < z.cells.size:=by omega
    rw [← i5,List.getElem?_map,List.getElem?_eq_getElem (by simpa using hz)] at hx
    simp only [Option.map_some,Option.some.injEq] at hx
    refine ⟨z.cells[q],?_,Array.all_eq_true.1 i7 q hz,?_⟩
    ·have:=zeroCells_get (z:=z.cells) (n:=n) (m:=grownCap w n 0 e - n) hj hz
     rw [i6] at this
     exact this
    ·rw [← hx]
     simpa using constF_rel w A z.cells[q])
   rw [List.length_replicate] at hv
   refine wp_val' hn h hv st' ?_
   rw [h3,h1,h2]
   simp [invoke,builtin,hpu,hle1,hln,hrun]
omit hty in
theorem makeMap_ok {k : V → Hp → R} {t : TypeId} {nid : Nat} {ag : Bool} (ho : o.op = .makeMap t none) (st : St L B0 G T w0 F H a w A β) (hn : Nxt L B0 G T w0 F a o next res k)
  (h : (newB H nid (.map ag []) fun H => k (.mp nid) H) = some res) : o.wp P a w next Q:=by
 obtain ⟨hf,h⟩:=newB_some h
 have g:=Grows.alloc w (.map #[] 0)
 have hnew : (w.alloc (.map #[] 0)).heap[w.heap.size]? = some (.map #[] 0):=heap_alloc_new w _
 obtain ⟨he,hp⟩:=(st.hp.grow g (fun _ h => h) (fun _ h => .inl h)).fill (k:=.map ag []) (l:=.at w.heap.size 0 0 0) hf ⟨w.heap.size,#[],0,rfl,hnew,by simp [EntriesR],by simp⟩ (by
   intro b o s cap hb ha
   cases hb
   obtain ⟨q1,q2⟩:=st.hp.not_new (Nat.le_refl _)
   exact ⟨.inl st.hp.base,q1,q2⟩)
 refine wp_val' (w':=w.alloc (.map #[] 0)) hn h (.mp nid w.heap.size (locSet_new _ _ _) (by simpa using (List.getElem?_eq_some_iff.1 hf).1)) ⟨st.fr.mono (g.fext st.hp.lt) he,hp,st.below_grow g⟩ ?_
 simp [execOp,ho,Instr.makeMap,newObj]
 rfl
omit hty in
theorem range_ok {k : V → Hp → R} {t : TypeId} {x : Operand} {nid : Nat} {s : FV} (ho : o.op = .range t x) (ht : P.underlying t = some .string) (hx : evalV F x = .f s) (hstr : ∃ l,s = .str l) (st : St L B0 G T w0 F H a w A β) (hn : Nxt L B0 G T w0 F a o next res k)
  (h : (newB H nid (.sit s 0) fun H => k (.it nid) H) = some res) : o.wp P a w next Q:=by
 obtain ⟨hf,h⟩:=newB_some h
 obtain ⟨l,rfl⟩:=hstr
 have hv:=(hx ▸ st.ev x).f'.1
 generalize hc : a.eval x = c at hv
 cases hv with
 | str sb =>
  have g:=Grows.alloc w (.stringIter sb 0)
  have hnew : (w.alloc (.stringIter sb 0)).heap[w.heap.size]? = some (.stringIter sb 0):=heap_alloc_new w _
  obtain ⟨he,hp⟩:=(st.hp.grow g (fun _ h => h) (fun _ h => .inl h)).fill (k:=.sit (.str sb.data.toList) 0) (l:=.at w.heap.size 0 0 0) hf ⟨w.heap.size,sb,rfl,hnew,.str sb⟩ (by
    intro b o s cap hb ha
    cases hb
    obtain ⟨q1,q2⟩:=st.hp.not_new (Nat.le_refl _)
    exact ⟨.inl st.hp.base,q1,q2⟩)
  refine wp_val' (w':=w.alloc (.stringIter sb 0)) hn h (.it nid w.heap.size (locSet_new _ _ _) (by simpa using (List.getElem?_eq_some_iff.1 hf).1)) ⟨st.fr.mono (g.fext st.hp.lt) he,hp,st.below_grow g⟩ ?_
  simp [execOp,ho,hc,Instr.range,underlying,ht,newObj]
  rfl
theorem cut_ok {k : V → Hp → R} {t e nid id sz l r : Nat} {x : Operand} {lo hi : Option Operand} {flo fhi : Option FV} {rows : List (List FV)} (ho : o.op = .slice t x lo hi none) (ht : (E.ty t).k = .slice e) (hx : evalV F x = .ref id) (hid : H[id]? = some (Blk.own sz rows))
  (hsz : sz = (E.ty e).size) (hlo : OptR w A flo (lo.map a.eval)) (hhi : OptR w A fhi (hi.map a.eval)) (hcut : cut? rows.length flo fhi = some (l,r)) (st : St L B0 G T w0 F H a w A β) (hn : Nxt L B0 G T w0 F a o next res k)
  (h : (newB ((settle H).set id (.old rows)) nid (.own sz ((rows.take r).drop l)) fun H => k (.ref nid) H) = some res) : o.wp P a w next Q:=by
 obtain ⟨hf,h⟩:=newB_some h
 have hfact:=(hty t).k
 rw [ht] at hfact
 obtain ⟨hte,hek,hpos,hby⟩:=hfact
 have hsize:=run_sizeOf w (hty e) hek
 obtain ⟨he1,hp1⟩:=settle_rel st.hp
 have hid1 : (settle H)[id]? = some (Blk.own sz rows):=settle_get hid (by simp)
 obtain ⟨he2,hp2⟩:=hp1.retire hid1
 have st2 : St L B0 G T w0 F ((settle H).set id (.old rows)) a w A β:=⟨st.fr.mono (FExt.refl w A) (he1.trans he2),hp2,st.below⟩
 have hxv:=hx ▸ st.ev x
 generalize hc : a.eval x = c at hxv
 cases hxv with
 | refDead _ _ hd => rw [hid] at hd;cases hd
 | refNil _ base hb hr2 =>
  have hr0 : rows = []:=by unfold rowsOf at hr2;rw [hid] at hr2;cases hr2;rfl
  subst hr0
  obtain ⟨hb1,h1,h2⟩:=cut_bounds (P:=P) (w:=w) (isSlice:=true) (cap:=0) hcut (Nat.le_refl _) hlo hhi
  simp only [List.length_nil] at h2 hb1
  obtain rfl : r = 0:=by omega
  obtain rfl : l = 0:=by omega
  obtain ⟨β',hv,st'⟩:=fill_nil (s:=sz) hf st2 base
  refine wp_val' hn h hv st' ?_
  simp [execOp,ho,hc,Instr.sliceAt,Instr.slice,underlying,hte,hb1,hsize]
 | refAt _ b o1 s cap n hb rows' hr2 hn2 =>
  have hr0 : rows' = rows:=by unfold rowsOf at hr2;rw [hid] at hr2;cases hr2;rfl
  subst hr0;subst hn2
  rcases st.hp.blk id _ hid with ⟨h0,_⟩ | ⟨b2,o2,cap2,h3,h4,h5,h6,h7,cc,ce,h8,h9⟩
  ·rw [hb] at h0;cases h0
  rw [hb] at h3;cases h3
  obtain ⟨hb1,h1,h2⟩:=cut_bounds (P:=P) (w:=w) (isSlice:=true) (cap:=cap) hcut h5 hlo hhi
  have hours:=st.hp.ours id b o1 sz cap _ hid rfl hb
  have hlid : id < (settle H).length:=(List.getElem?_eq_some_iff.1 hid1).1
  have hlen : ((rows'.take r).drop l).length = r - l:=by simp;omega
  obtain ⟨o',ho',hcap⟩ : ∃ o',(if cap = l then (⟨b,o1,none⟩ : Addr) else (⟨b,o1,none⟩ : Addr).add (l * sz)) = ⟨b,o',none⟩ ∧ (cap ≠ l → o' = o1 + l * sz) ∧ (cap = l → o' = o1):=by
   by_cases e : cap = l
   ·exact ⟨o1,by rw [if_pos e],fun q => absurd e q,fun _ => rfl⟩
   ·refine ⟨o1 + l * sz,?_,fun _ => rfl,fun q => absurd q e⟩
    rw [if_neg e];unfold Addr.add;split <;> simp_all
  have hbound : o' + (cap - l) * sz ≤ cc.size:=by
   by_cases e : cap = l
   ·rw [hcap.2 e];have : cap - l = 0:=by omega
    rw [this];omega
   ·rw [hcap.1 e]
    have : cap * sz = l * sz + (cap - l) * sz:=by rw [← Nat.add_mul];congr 1;omega
    omega
  obtain ⟨he4,hp4⟩:=hp2.fill (k:=.own sz ((rows'.take r).drop l)) (l:=.at b o' sz (cap - l)) hf (.inr ⟨b,o',cap - l,rfl,h4,by rw [hlen];omega,by omega,⟨by
    intro q hq
    exact h7.1 q (List.mem_of_mem_take (List.mem_of_mem_drop hq)),fun i q k x hq hk => by
    have hi:=(List.getElem?_eq_some_iff.1 hq).1
    rw [hlen] at hi
    rw [List.getElem?_drop,List.getElem?_take] at hq
    split at hq
    ·obtain ⟨u,q1,q2,q3⟩:=h7.2 (l + i) q k x hq hk
     refine ⟨u,?_,q2,q3⟩
     rw [hcap.1 (by omega),show o1 + l * sz + (i * sz + k) = o1 + ((l + i) * sz + k) by rw [Nat.add_mul];omega]
     exact q1
    ·cases hq⟩,cc,ce,h8,hbound⟩) (by
    intro b' o'' s' cap' hb' _
    cases hb'
    refine ⟨hours.1,hours.2,?_⟩
    intro i b3 o3 s3 cap3 k3 hk3 ha3 hq3 e3
    subst e3
    rw [get_set_hp] at hk3
    by_cases ei : id = i
    ·subst ei;rw [if_pos ⟨rfl,hlid⟩] at hk3;cases hk3;cases ha3
    ·rw [if_neg (fun q => ei q.1)] at hk3
     exact ei (hp1.inj id i _ _ _ _ _ _ _ _ _ hid1 hk3 rfl ha3 hb hq3))
  have hv : VR w A (locSet β nid (.at b o' sz (cap - l))) (((settle H).set id (.old rows')).set nid (.own sz ((rows'.take r).drop l))) (.ref nid) (.slice (some ⟨b,o',none⟩) (r - l) (cap - l)):=by
   refine .refAt nid b o' sz (cap - l) _ (locSet_new _ _ _) ((rows'.take r).drop l) ?_ hlen.symm
   unfold rowsOf
   rw [get_set_hp,if_pos ⟨rfl,(List.getElem?_eq_some_iff.1 hf).1⟩]
  refine wp_val' hn h hv ⟨st2.fr.mono (FExt.refl w A) he4,hp4,st2.below⟩ ?_
  rw [← ho']
  by_cases e : cap = l
  ·subst e;simp [execOp,ho,hc,Instr.sliceAt,Instr.slice,underlying,hte,hb1,hsize,← hsz]
  ·simp [execOp,ho,hc,Instr.sliceAt,Instr.slice,underlying,hte,hb1,hsize,e,← hsz]
end
end Go.Proofs.YtpffkpaiihcffaaGreatDoor.VM
