/- Operations, continued: indices, conversions, plain builtins, iterators. -/
import Derived.Test.YtpffkpaiihcffaaGreatDoorOps7
set_option linter.unusedVariables false
set_option linter.unusedSimpArgs false
set_option linter.unusedSectionVars false
namespace Go.Proofs.YtpffkpaiihcffaaGreatDoor.VM
open Go Go.RowKit
section
variable {P : Program} {E : Env} {L : List (Fr × Act)} {B0 : Nat} {G T : Nat → Prop} {w0 w w' : World} {A : Nat → Prop} {β : LocOf} {H : Hp} {F : Fr} {a : Act} {o : Oper}
variable {next : Act → World → Prop} {Q : Exit → Act → World → Prop} {res : FV}
theorem fAddrO_rel {p q : FV} {c : Value} {off : Nat} (h : fAddrO p off = some q) (hx : FR w A p c) : ∃ ad,c = .pointer (some ad) ∧ FR w A q (.pointer (some (ad.add off))):=by
 unfold fAddrO at h
 split at h
 ·cases h
  have hx':=hx
  cases hx with
  | eptr _ ad _ u hA hm h1 hx2 => exact ⟨_,rfl,fAddr_rel rfl hx'⟩
 ·cases h
theorem ptr_add {b o1 r s oo off : Nat} : (⟨b,o1 + (r * s + oo),none⟩ : Addr).add off = ⟨b,o1 + (r * s + (oo + off)),none⟩:=by
 unfold Addr.add
 split
 ·rename_i h0;subst h0;rfl
 ·simp [Nat.add_assoc]
theorem rIdx_rel {id sz size j : Nat} {c d : Value} {fi : FV} {r : List (List FV)} {t e : TypeId} (hr : rowsOf H id = some r) (hp : HRel B0 G T w A β H) (hv : VR w A β H (.ref id) c) (hi : FR w A fi d) (hj : rIdx r fi = some j) (hs : ∀ b o cap s,β id = .at b o s cap → r ≠ [] → s = size)
  (ht : P.underlying t = some (.slice e)) (hsz : (Go.sizeOf e).run P w = .ok size w) : ∃ u,(Instr.indexAt t c d).run P w = .ok u w ∧ VR w A β H (.ptr id j 0) u:=by
 unfold rIdx at hj
 obtain ⟨j',hj',h1⟩:=bindO_some hj
 split at h1
 ·rename_i hjl
  cases h1
  obtain ⟨ik,m,rfl,hm0,hmj⟩:=asNat_rel hj' hi
  cases hv with
  | refNil _ ad hb hr2 => rw [hr] at hr2;cases hr2;simp at hjl
  | refDead _ _ hd => unfold rowsOf at hr;rw [hd] at hr;cases hr
  | refAt _ b o1 s cap n hb rows hr2 hn2 =>
   rw [hr] at hr2;cases hr2
   have hss:=hs b o1 cap s hb (by intro e;subst e;simp at hjl)
   subst hss
   have hb2 : 0 ≤ m ∧ m < (n : Int):=⟨hm0,by omega⟩
   refine ⟨.pointer (some ((⟨b,o1,none⟩ : Addr).add (m.toNat * s))),by simp [Instr.indexAt,asIntOf,run_underlying ht,hb2,hsz],?_⟩
   have : (⟨b,o1,none⟩ : Addr).add (m.toNat * s) = ⟨b,o1 + (j * s + 0),none⟩:=by
    rw [hmj];unfold Addr.add;split
    ·rename_i h0;simp [h0]
    ·simp
   rw [this]
   exact .ptr id j 0 b o1 s cap hb (rowsOf_lt hr)
 ·cases h1
variable (hty : TyOk P E.ty)
include hty
theorem indexAddr_ok {k : V → Hp → R} {t : TypeId} {x i : Operand} (ho : o.op = .indexAddr t x i) (st : St L B0 G T w0 F H a w A β) (hn : Nxt L B0 G T w0 F a o next res k) (h : idxK E H t (evalV F x) (evalV F i) (fun v => k v H) = some res) : o.wp P a w next Q:=by
 have hfact:=(hty t).k
 unfold idxK at h
 split at h
 ·rename_i e fi hk hi
  rw [hk] at hfact
  obtain ⟨hte,hek,hpos,hby⟩:=hfact
  have hsz : ∀ w,(Go.sizeOf e).run P w = .ok (E.ty e).size w:=fun w => run_sizeOf w (hty e) hek
  have hiv:=(hi ▸ st.ev i).f'.1
  split at h
  ·rename_i fx hx
   obtain ⟨cs,h1,h2⟩:=bindO_some h
   obtain ⟨u,h3,h4,h5⟩:=fIdxC_run hte hsz h1 (hx ▸ st.ev x).f'.1 hiv
   exact wp_val st hn h2 (.f _ _ h4 h5) (by simp only [execOp,ho,Sem.run_bind,h3];rfl)
  ·rename_i id hx
   have fin : ∀ {r : List (List FV)} {j : Nat},rowsOf H id = some r → rIdx r fi = some j → (∀ b o cap s,β id = .at b o s cap → r ≠ [] → s = (E.ty e).size) → k (.ptr id j 0) H = some res → o.wp P a w next Q:=by
    intro r j hr hj hs h2
    obtain ⟨u,h3,h4⟩:=rIdx_rel (sz:=0) hr st.hp (hx ▸ st.ev x) hiv hj hs hte (hsz w)
    exact wp_val st hn h2 h4 (by simp only [execOp,ho,Sem.run_bind,h3];rfl)
   have bysz : ∀ {r : List (List FV)},rowsOf H id = some r → rowsSz (E.ty e).size r = true → ∀ b o cap s,β id = .at b o s cap → r ≠ [] → s = (E.ty e).size:=by
    intro r hr hz b o1 cap s hb hne
    rcases rows_at st.hp hr with ⟨_,h0⟩ | ⟨b2,o2,s2,cap2,h3,h4,h5,h6⟩
    ·exact absurd h0 hne
    ·rw [hb] at h3;cases h3
     exact (rowsSz_size hz h6.1 hne).symm
   split at h
   ·rename_i sz r hid
    obtain ⟨hz,h⟩:=gB_some h
    obtain ⟨j,h1,h2⟩:=bindO_some h
    refine fin (by unfold rowsOf;rw [hid]) h1 (fun b o1 cap s hb hne => ?_) h2
    rcases st.hp.blk id _ hid with ⟨_,h0⟩ | ⟨b2,o2,cap2,h3,h4,_⟩
    ·exact absurd h0 hne
    ·rw [hb] at h3;cases h3
     exact Nat.eq_of_beq_eq_true hz
   ·rename_i r hid
    obtain ⟨hz,h⟩:=gB_some h
    obtain ⟨j,h1,h2⟩:=bindO_some h
    have hr : rowsOf H id = some r:=by unfold rowsOf;rw [hid]
    exact fin hr h1 (bysz hr hz) h2
   ·rename_i r hid
    obtain ⟨hz,h⟩:=gB_some h
    obtain ⟨j,h1,h2⟩:=bindO_some h
    have hr : rowsOf H id = some r:=by unfold rowsOf;rw [hid]
    exact fin hr h1 (bysz hr hz) h2
   ·cases h
  ·cases h
 ·rename_i n e fi hk hi
  rw [hk] at hfact
  obtain ⟨hte,_⟩:=hfact
  obtain ⟨hek,h⟩:=gB_some h
  obtain ⟨j,hj,h⟩:=bindO_some h
  obtain ⟨hjn,h⟩:=gB_some h
  simp only [decide_eq_true_eq] at hjn
  have hsz:=run_sizeOf w (hty e) hek
  obtain ⟨ik,m,hm1,hm0,hmj⟩:=asNat_rel hj (hi ▸ st.ev i).f'.1
  have hb2 : 0 ≤ m ∧ m < (n : Int):=⟨hm0,by omega⟩
  have hrun : ∀ ad,a.eval x = .pointer (some ad) → (execOp a.eval o).run P w = .ok (.value (.pointer (some (ad.add (j * (E.ty e).size))))) w:=by
   intro ad had
   simp [execOp,ho,had,hm1,Instr.indexAt,asIntOf,run_underlying hte,Instr.sureAddr,hb2,hsz,hmj]
  split at h
  ·rename_i p hx
   obtain ⟨q,hq,h2⟩:=bindO_some h
   obtain ⟨ad,h3,h4⟩:=fAddrO_rel hq (hx ▸ st.ev x).f'.1
   exact wp_val st hn h2 (.f _ _ h4 rfl) (hrun _ h3)
  ·rename_i id r oo hx
   obtain ⟨hth,h⟩:=gB_some h
   obtain ⟨b,o1,s,cap,hc,hb,hl⟩:=there_ptr hth (hx ▸ st.ev x)
   refine wp_val st hn h (u:=.pointer (some ((⟨b,o1 + (r * s + oo),none⟩ : Addr).add (j * (E.ty e).size)))) ?_ (hrun _ hc)
   rw [ptr_add]
   exact VR.ptr id r (oo + j * (E.ty e).size) b o1 s cap hb hl
  ·cases h
 ·cases h
omit hty in
theorem index_ok {k : V → Hp → R} {t : TypeId} {x i : Operand} {s fi z : FV} (ho : o.op = .index t x i) (ht : P.underlying t = some .string) (hx : evalV F x = .f s) (hi : evalV F i = .f fi) (hz : fByte s fi = some z)
  (st : St L B0 G T w0 F H a w A β) (hn : Nxt L B0 G T w0 F a o next res k) (h : k (.f z) H = some res) : o.wp P a w next Q:=by
 obtain ⟨u,h1,h2⟩:=fByte_run (P:=P) ht hz (hx ▸ st.ev x).f'.1 (hi ▸ st.ev i).f'.1
 refine wp_val st hn h (.f _ _ h2 ?_) (by simp only [execOp,ho,Sem.run_bind,h1];rfl)
 unfold fByte at hz
 split at hz
 ·obtain ⟨j,_,hz⟩:=bindO_some hz
  obtain ⟨b,_,hz⟩:=bindO_some hz
  cases hz;cases h2;rfl
 ·cases hz
omit hty in
theorem arrCells_some {xs : List FV} : ∀ (n off : Nat) (acc vs : List V),arrCells xs n off acc = some vs → ∃ ys : List FV,vs = acc.reverse ++ ys.map V.f ∧ ys.length = n ∧ ∀ k x,ys[k]? = some x → xs[off + k]? = some x
 | 0,off,acc,vs,h => by
  simp only [arrCells,Option.some.injEq] at h
  exact ⟨[],by simp [← h],rfl,fun k x hx => by simp at hx⟩
 | n + 1,off,acc,vs,h => by
  simp only [arrCells] at h
  obtain ⟨x,hx,h⟩:=bindO_some h
  obtain ⟨ys,h1,h2,h3⟩:=arrCells_some n (off + 1) _ vs h
  refine ⟨x :: ys,by simp [h1],by simp [h2],fun k y hy => ?_⟩
  cases k with
  | zero => simp at hy;rw [← hy];exact hx
  | succ k =>
   have:=h3 k y (by simpa using hy)
   rw [show off + (k + 1) = off + 1 + k by omega];exact this
theorem indexAgg_ok {k : V → Hp → R} {t : TypeId} {x i : Operand} {n e j : Nat} {cs vs : List V} {xs : List FV} {fi : FV} (ho : o.op = .index t x i) (hk : (E.ty t).k = .array n e) (hx : evalV F x = .agg cs) (hi : evalV F i = .f fi)
  (hek : (E.ty e).known = true) (hea : (E.ty e).isAgg = true) (hcs : cellsF cs = some xs) (hj : asNat fi = some j) (hjn : j < n) (hz : arrCells xs (E.ty e).size (j * (E.ty e).size) [] = some vs)
  (st : St L B0 G T w0 F H a w A β) (hn : Nxt L B0 G T w0 F a o next res k) (h : k (.agg vs) H = some res) : o.wp P a w next Q:=by
 have hfact:=(hty t).k
 rw [hk] at hfact
 obtain ⟨hte,_⟩:=hfact
 have hsz:=run_sizeOf w (hty e) hek
 have hag:=run_isAgg w (hty e) hek
 rw [hea] at hag
 obtain ⟨ik,m,hm1,hm0,hmj⟩:=asNat_rel hj (hi ▸ st.ev i).f'.1
 have hb2 : 0 ≤ m ∧ m < (n : Int):=⟨hm0,by omega⟩
 have hxv:=hx ▸ st.ev x
 generalize hc : a.eval x = c at hxv
 obtain ⟨ys,hys,hlen,hget⟩:=arrCells_some _ _ _ _ hz
 simp only [List.reverse_nil,List.nil_append] at hys
 unfold cellsF at hcs
 split at hcs
 ·rename_i hall
  cases hcs
  cases hxv with
  | agg _ us hl hxx =>
   have hfit : ∀ q,q < (E.ty e).size → j * (E.ty e).size + q < us.length:=fun q hq => by
    have h1 : ys[q]? = some (ys[q]'(by omega)):=List.getElem?_eq_getElem (by omega)
    have h2:=hget q _ h1
    rw [List.getElem?_map,Option.map_eq_some_iff] at h2
    obtain ⟨v,hv,_⟩:=h2
    have:=(List.getElem?_eq_some_iff.1 hv).1
    omega
   refine wp_val st hn h (u:=.agg (us.toArray.extract (j * (E.ty e).size) (j * (E.ty e).size + (E.ty e).size))) ?_ (by simp [execOp,ho,hc,hm1,Instr.index,asIntOf,run_underlying hte,hb2,hsz,part,hag,hmj])
   have he : us.toArray.extract (j * (E.ty e).size) (j * (E.ty e).size + (E.ty e).size) = (listSlice us (j * (E.ty e).size) (E.ty e).size).toArray:=by
    unfold listSlice
    simp [List.extract]
   rw [he,hys]
   refine VR.agg (w:=w) (A:=A) (β:=β) (H:=H) (ys.map V.f) (listSlice us (j * (E.ty e).size) (E.ty e).size) ?_ fun q v u hv hu => ?_
   ·unfold listSlice
    simp only [List.length_map,hlen,List.length_take,List.length_drop]
    by_cases h0 : (E.ty e).size = 0
    ·omega
    ·have:=hfit ((E.ty e).size - 1) (by omega)
     omega
   ·rw [List.getElem?_map,Option.map_eq_some_iff] at hv
    obtain ⟨y,hy,rfl⟩:=hv
    have hq : q < (E.ty e).size:=by have:=(List.getElem?_eq_some_iff.1 hy).1;omega
    rw [listSlice_get,if_pos hq] at hu
    have h2:=hget q y hy
    rw [List.getElem?_map,Option.map_eq_some_iff] at h2
    obtain ⟨v,hv2,rfl⟩:=h2
    have hvf : V.f (unF v) = v:=by
     have:=List.all_eq_true.1 hall v (List.mem_of_getElem? hv2)
     cases v <;> first | rfl | cases this
    rw [hvf]
    exact hxx _ v u hv2 hu
 ·cases hcs
theorem indexArr_ok {k : V → Hp → R} {t : TypeId} {x i : Operand} {n e j : Nat} {cs : List V} {xs : List FV} {fi z : FV} (ho : o.op = .index t x i) (hk : (E.ty t).k = .array n e) (hx : evalV F x = .agg cs) (hi : evalV F i = .f fi)
  (hek : (E.ty e).known = true) (hea : (E.ty e).isAgg = false) (hes : (E.ty e).size = 1) (hcs : cellsF cs = some xs) (hj : asNat fi = some j) (hjn : j < n) (hz : xs[j]? = some z)
  (st : St L B0 G T w0 F H a w A β) (hn : Nxt L B0 G T w0 F a o next res k) (h : k (.f z) H = some res) : o.wp P a w next Q:=by
 have hfact:=(hty t).k
 rw [hk] at hfact
 obtain ⟨hte,_⟩:=hfact
 have hsz:=run_sizeOf w (hty e) hek
 have hag:=run_isAgg w (hty e) hek
 rw [hes] at hsz
 rw [hea] at hag
 obtain ⟨ik,m,hm1,hm0,hmj⟩:=asNat_rel hj (hi ▸ st.ev i).f'.1
 have hb2 : 0 ≤ m ∧ m < (n : Int):=⟨hm0,by omega⟩
 have hxv:=hx ▸ st.ev x
 generalize hc : a.eval x = c at hxv
 unfold cellsF at hcs
 split at hcs
 ·rename_i hall
  cases hcs
  rw [List.getElem?_map,Option.map_eq_some_iff] at hz
  obtain ⟨v,hv,rfl⟩:=hz
  cases hxv with
  | agg _ us hl hxx =>
   have hlt : j < us.length:=by have:=(List.getElem?_eq_some_iff.1 hv).1;omega
   have hu : us[j]? = some us[j]:=List.getElem?_eq_getElem hlt
   have hvf : V.f (unF v) = v:=by
    have:=List.all_eq_true.1 hall v (List.mem_of_getElem? hv)
    cases v <;> first | rfl | cases this
   refine wp_val st hn h (u:=us[j]) (hvf ▸ hxx j v _ hv hu) ?_
   simp [execOp,ho,hc,hm1,Instr.index,asIntOf,run_underlying hte,hb2,hsz,part,hag,hmj,hlt]
 ·cases hcs
omit hty in
theorem bytes_cells : ∀ {rows : List (List FV)} {s : List UInt8},bytes? rows = some s → ∃ ns : List Int,rows = ns.map (fun n => [FV.int .u8 n]) ∧ s = ns.map fun n => UInt8.ofNat n.toNat
 | [],s,h => by cases h;exact ⟨[],rfl,rfl⟩
 | r :: rs,s,h => by
  simp only [bytes?] at h
  obtain ⟨b,h1,h⟩:=bindO_some h
  obtain ⟨bs,h2,h⟩:=bindO_some h
  cases h
  obtain ⟨ns,rfl,rfl⟩:=bytes_cells h2
  unfold byte? at h1
  split at h1
  ·rename_i n
   cases h1
   exact ⟨n :: ns,rfl,rfl⟩
  ·cases h1
end
end Go.Proofs.YtpffkpaiihcffaaGreatDoor.VM
