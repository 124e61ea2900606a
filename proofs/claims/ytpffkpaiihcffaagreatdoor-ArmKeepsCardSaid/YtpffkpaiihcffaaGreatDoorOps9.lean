/- Operations, continued: conversions, lengths, the least and the greatest, iterators. -/
import Derived.Test.YtpffkpaiihcffaaGreatDoorOps8
import Derived.Laws.BytesString
set_option linter.unusedVariables false
set_option linter.unusedSimpArgs false
set_option linter.unusedSectionVars false
namespace Go.Proofs.YtpffkpaiihcffaaGreatDoor.VM
open Go Go.RowKit
section
variable {P : Program} {E : Env} {L : List (Fr × Act)} {B0 : Nat} {G T : Nat → Prop} {w0 w w' : World} {A : Nat → Prop} {β : LocOf} {H : Hp} {F : Fr} {a : Act} {o : Oper}
variable {next : Act → World → Prop} {Q : Exit → Act → World → Prop} {res : FV}
theorem push_list : ∀ (ns : List Int) (b : ByteArray),(ns.foldl (fun r n => r.push (UInt8.ofNat n.toNat)) b).data.toList = b.data.toList ++ ns.map fun n => UInt8.ofNat n.toNat
 | [],b => by simp
 | n :: ns,b => by
  rw [List.foldl_cons,push_list ns]
  have : (b.push (UInt8.ofNat n.toNat)).data = b.data.push (UInt8.ofNat n.toNat):=rfl
  rw [this];simp
theorem bytes_news {ys : List (List FV)} {news : List Value} {s : List UInt8} (hf : Flat w A 1 ys news) (hb : bytes? ys = some s) : ∃ ns : List Int,news = ns.map (Value.int .u8) ∧ s = ns.map fun n => UInt8.ofNat n.toNat:=by
 obtain ⟨ns,rfl,rfl⟩:=bytes_cells hb
 refine ⟨ns,?_,rfl⟩
 apply List.ext_getElem?
 intro i
 by_cases hi : i < ns.length
 ·obtain ⟨u,h1,h2⟩:=hf.at_ i [.int .u8 ns[i]] 0 (.int .u8 ns[i]) (by rw [List.getElem?_map,List.getElem?_eq_getElem hi];rfl) rfl
  rw [Nat.mul_one,Nat.add_zero] at h1
  cases h2
  rw [h1,List.getElem?_map,List.getElem?_eq_getElem hi];rfl
 ·have:=hf.len
  simp at this
  rw [List.getElem?_eq_none (by omega),List.getElem?_eq_none (by simp;omega)]
theorem bytes_run {sd d e : TypeId} {ad : Addr} {n cap : Nat} {ys : List (List FV)} {news : List Value} {s : List UInt8} (hs : P.underlying sd = some (.slice e)) (he : P.underlying e = some (.int .u8)) (hd : P.underlying d = some .string)
  (hf : Flat w A 1 ys news) (hn : n = ys.length) (hc : ∀ (j : Nat) u,news[j]? = some u → w.cell? (ad.add j) = some u) (hb : bytes? ys = some s) : ∃ u,(convert sd d (.slice (some ad) n cap)).run P w = .ok u w ∧ FR w A (.str s) u ∧ u.oneCell' = true:=by
 obtain ⟨ns,rfl,rfl⟩:=bytes_news hf hb
 have hlen : (ns.map (Value.int .u8)).length = n:=by have:=hf.len;simp at this;simp;omega
 have hl:=run_loadCells_list (P:=P) w ad (ns.map (Value.int .u8)) hc
 rw [hlen] at hl
 refine ⟨_,by rw [run_convert_bytes_string w sd d e _ _ _ hs he hd];exact run_bytesToString w ad n cap ns hl,?_,rfl⟩
 have:=FR.str (w:=w) (A:=A) (ns.foldl (fun r n => r.push (UInt8.ofNat n.toNat)) ByteArray.empty)
 rw [push_list] at this
 simpa using this
theorem fToStr_run {sd d e : TypeId} {x z : FV} {c : Value} (hs : P.underlying sd = some (.slice e)) (he : P.underlying e = some (.int .u8)) (hsz : rowsSz 1 (match x with | .arr r => r | _ => []) = true) (hd : P.underlying d = some .string) (h : fToStr x = some z) (hx : FR w A x c) :
  ∃ u,(convert sd d c).run P w = .ok u w ∧ FR w A z u ∧ u.oneCell' = true:=by
 have empty : ∀ (ad : Option Addr) (cap : Nat),∃ u,(convert sd d (.slice ad 0 cap)).run P w = .ok u w ∧ FR w A (.str []) u ∧ u.oneCell' = true:=by
  intro ad cap
  cases ad with
  | none =>
   refine ⟨.string .empty,by rw [run_convert_bytes_string w sd d e _ _ _ hs he hd];simp [Conv.bytesToString],?_,rfl⟩
   have:=FR.str (w:=w) (A:=A) ByteArray.empty
   simpa using this
  | some ad => exact bytes_run hs he hd (Flat.nil 1) rfl (by intro j u hu;simp at hu) rfl
 unfold fToStr at h
 split at h
 ·obtain ⟨s,h1,h2⟩:=bindO_some h
  cases h2
  cases hx with
  | arrNil ad cap => cases h1;exact empty ad cap
  | arr rows ad cap s' u hs' hc hr hA hm h1' hx =>
   obtain ⟨news,g1,g2⟩:=flat_of (w:=w) (A:=A) (ad:=ad) hs' hr (fun i k hi hk => ⟨u i k,hm i k hi hk,h1' i k hi hk,fun r x hr' hx' => hx i r k x hr' hx'⟩)
   exact bytes_run hs he hd (flat_size g1 hsz) rfl g2 h1
 ·cases h
  cases hx with
  | nilS ad => exact empty ad 0
 ·cases h
theorem bytes_sz {r : List (List FV)} {s : List UInt8} (h : bytes? r = some s) : rowsSz 1 r = true:=by
 obtain ⟨ns,rfl,rfl⟩:=bytes_cells h
 cases ns <;> rfl
theorem fToStrI_run {sd d : TypeId} {ds : TypeDesc} {x z : FV} {c : Value} (hs : P.underlying sd = some ds) (hd : P.underlying d = some .string) (h : fToStrI x = some z) (hx : FR w A x c) : ∃ u,(convert sd d c).run P w = .ok u w ∧ FR w A z u ∧ u.oneCell' = true:=by
 unfold fToStrI at h
 split at h
 ·cases h
  cases hx with
  | str sb => exact ⟨.string sb,by simp [convert,run_underlying hs,run_underlying hd],.str _,rfl⟩
 ·cases h
  cases hx with
  | int _ _ => exact ⟨_,by simp [convert,run_underlying hs,run_underlying hd,Conv.intToString],.str _,rfl⟩
 ·cases h
variable (hty : TyOk P E.ty)
include hty
theorem known_underlying {t : TypeId} (hk : (E.ty t).known = true) : ∃ d,P.underlying t = some d:=by
 have k:=(hty t).k
 unfold TyI.known at hk
 cases hh : (E.ty t).k with
 | other => rw [hh] at hk;cases hk
 | bool => rw [hh] at k;exact ⟨_,k⟩
 | int q => rw [hh] at k;exact ⟨_,k⟩
 | str => rw [hh] at k;exact ⟨_,k⟩
 | slice e => rw [hh] at k;exact ⟨_,k.1⟩
 | struct fs => rw [hh] at k;obtain ⟨fields,k,_⟩:=k;exact ⟨_,k⟩
 | array n e => rw [hh] at k;exact ⟨_,k.1⟩
 | map q e => rw [hh] at k;exact ⟨_,k.1⟩
 | ptr e => rw [hh] at k;exact ⟨_,k⟩
 | func => rw [hh] at k;obtain ⟨ps,rs,v,k⟩:=k;exact ⟨_,k⟩
theorem convInt_ok {k : V → Hp → R} {sd d : TypeId} {x : Operand} {kd : IntKind} {fa z : FV} (ho : o.op = .convert sd d x) (hd : (E.ty d).k = .int kd) (hx : evalV F x = .f fa) (hs : (E.ty sd).known = true) (hz : fConvInt kd fa = some z)
  (st : St L B0 G T w0 F H a w A β) (hn : Nxt L B0 G T w0 F a o next res k) (h : k (.f z) H = some res) : o.wp P a w next Q:=by
 obtain ⟨ds,h1⟩:=known_underlying hty hs
 have h2:=(hty d).k
 rw [hd] at h2
 obtain ⟨u,h3,h4⟩:=fConvInt_run (P:=P) h1 h2 hz (hx ▸ st.ev x).f'.1
 refine wp_val st hn h (.f _ _ h4 ?_) (by simp only [execOp,ho,Sem.run_bind,h3];rfl)
 unfold fConvInt at hz
 split at hz
 ·cases hz;cases h4;rfl
 ·cases hz
theorem convStr_ok {k : V → Hp → R} {sd d e : TypeId} {x : Operand} {fa z : FV} (ho : o.op = .convert sd d x) (hd : (E.ty d).k = .str) (hs : (E.ty sd).k = .slice e) (he : (E.ty e).k = .int .u8) (hx : evalV F x = .f fa) (hz : fToStr fa = some z)
  (st : St L B0 G T w0 F H a w A β) (hn : Nxt L B0 G T w0 F a o next res k) (h : k (.f z) H = some res) : o.wp P a w next Q:=by
 have h1:=(hty sd).k
 have h2:=(hty d).k
 have h3:=(hty e).k
 rw [hs] at h1;rw [hd] at h2;rw [he] at h3
 obtain ⟨u,h4,h5,h6⟩:=fToStr_run (P:=P) h1.1 h3 (by
  unfold fToStr at hz
  split at hz
  ·obtain ⟨s,q,_⟩:=bindO_some hz;exact bytes_sz q
  ·rfl
  ·cases hz) h2 hz (hx ▸ st.ev x).f'.1
 exact wp_val st hn h (.f _ _ h5 h6) (by simp only [execOp,ho,Sem.run_bind,h4];rfl)
theorem convStrI_ok {k : V → Hp → R} {sd d : TypeId} {x : Operand} {fa z : FV} (ho : o.op = .convert sd d x) (hd : (E.ty d).k = .str) (hs : (E.ty sd).known = true) (hx : evalV F x = .f fa) (hz : fToStrI fa = some z)
  (st : St L B0 G T w0 F H a w A β) (hn : Nxt L B0 G T w0 F a o next res k) (h : k (.f z) H = some res) : o.wp P a w next Q:=by
 obtain ⟨ds,h1⟩:=known_underlying hty hs
 have h2:=(hty d).k
 rw [hd] at h2
 obtain ⟨u,h4,h5,h6⟩:=fToStrI_run (P:=P) h1 h2 hz (hx ▸ st.ev x).f'.1
 exact wp_val st hn h (.f _ _ h5 h6) (by simp only [execOp,ho,Sem.run_bind,h4];rfl)
theorem convRef_ok {k : V → Hp → R} {sd d e : TypeId} {x : Operand} {id : Nat} {r : List (List FV)} {s : List UInt8} (ho : o.op = .convert sd d x) (hd : (E.ty d).k = .str) (hs : (E.ty sd).k = .slice e) (he : (E.ty e).k = .int .u8) (hx : evalV F x = .ref id) (hr : rowsOf H id = some r) (hb : bytes? r = some s)
  (st : St L B0 G T w0 F H a w A β) (hn : Nxt L B0 G T w0 F a o next res k) (h : k (.f (.str s)) H = some res) : o.wp P a w next Q:=by
 have h1:=(hty sd).k
 have h2:=(hty d).k
 have h3:=(hty e).k
 rw [hs] at h1;rw [hd] at h2;rw [he] at h3
 have hxv:=hx ▸ st.ev x
 generalize hc : a.eval x = c at hxv
 have fin : ∀ u,(convert sd d c).run P w = .ok u w → FR w A (.str s) u → u.oneCell' = true → o.wp P a w next Q:=fun u h4 h5 h6 =>
  wp_val st hn h (.f _ _ h5 h6) (by simp only [execOp,ho,hc,Sem.run_bind,h4];rfl)
 cases hxv with
 | refDead _ _ hd => unfold rowsOf at hr;rw [hd] at hr;cases hr
 | refNil _ ad hb' hr2 =>
  rw [hr] at hr2;cases hr2
  have hs0 : s = []:=by cases hb;rfl
  subst hs0
  obtain ⟨u,h4,h5,h6⟩:=fToStr_run (P:=P) (w:=w) (A:=A) (x:=.nilS) (z:=.str []) h1.1 h3 rfl h2 rfl (.nilS ad)
  exact fin u h4 h5 h6
 | refAt _ b o1 sz cap n hb' rows hr2 hn2 =>
  rw [hr] at hr2;cases hr2
  rcases rows_at st.hp hr with ⟨h0,_⟩ | ⟨b2,o2,s2,cap2,q3,q4,q5,q6⟩
  ·rw [hb'] at h0;cases h0
  rw [hb'] at q3;cases q3
  obtain ⟨news,g1,g2⟩:=flat_of (w:=w) (A:=A) (ad:=⟨b,o1,none⟩) q4 q6.1 q6.cells
  obtain ⟨u,h4,h5,h6⟩:=bytes_run (P:=P) (cap:=cap) h1.1 h3 h2 (flat_size g1 (bytes_sz hb)) hn2 g2 hb
  exact fin u h4 h5 h6
theorem len_ok {k : V → Hp → R} {c : Call} {t : TypeId} {v : V} {z : FV} (ho : o.op = .call c) (hc : c.callee = .builtin .len) (hts : c.argTypes.toList = [t]) (hargs : c.args.toList.map (evalV F) = [v])
  (hrun : ∀ u,VR w A β H v u → ∃ x,(Builtin.len_ #[t] o.type #[u]).run P w = .ok x w ∧ FR w A z x ∧ x.oneCell' = true)
  (st : St L B0 G T w0 F H a w A β) (hn : Nxt L B0 G T w0 F a o next res k) (h : k (.f z) H = some res) : o.wp P a w next Q:=by
 obtain ⟨p,h1,rfl⟩:=args_eq1 hargs
 obtain ⟨x,h2,h3,h4⟩:=hrun _ (st.ev p)
 refine wp_val st hn h (.f _ _ h3 h4) ?_
 have h5 : c.argTypes = #[t]:=by rw [← Array.toArray_toList (xs:=c.argTypes),hts]
 obtain ⟨cs,h6⟩:=run_builtin (P:=P) (w:=w) (a:=a) ho hc
 rw [h6,h1,h5]
 simp [invoke,builtin,h2]
omit hty in
theorem cap_ok {k : V → Hp → R} {c : Call} {t e : TypeId} {x z : FV} (hu : P.underlying t = some (.slice e)) (ho : o.op = .call c) (hc : c.callee = .builtin .cap) (hts : c.argTypes.toList = [t]) (hargs : c.args.toList.map (evalV F) = [.f x]) (hz : fCap x = some z)
  (st : St L B0 G T w0 F H a w A β) (hn : Nxt L B0 G T w0 F a o next res k) (h : k (.f z) H = some res) : o.wp P a w next Q:=by
 obtain ⟨p,h1,h0⟩:=args_eq1 hargs
 have hv:=h0 ▸ st.ev p
 unfold fCap at hz
 split at hz
 ·cases hz
  have hf:=hv.f'.1
  generalize hau : a.eval p = u at hf
  cases hf with
  | nilS ad =>
   refine wp_val st hn h (.f _ _ (.int _ _) rfl) ?_
   have h5 : c.argTypes = #[t]:=by rw [← Array.toArray_toList (xs:=c.argTypes),hts]
   obtain ⟨cs,h6⟩:=run_builtin (P:=P) (w:=w) (a:=a) ho hc
   rw [h6,h1,h5]
   simp [invoke,builtin,Builtin.cap_,run_underlying hu,goInt,hau]
 ·cases hz
omit hty in
theorem lenRef_run {t e ty : TypeId} {id : Nat} {r : List (List FV)} {u : Value} (ht : P.underlying t = some (.slice e)) (hr : rowsOf H id = some r) (hv : VR w A β H (.ref id) u) : ∃ x,(Builtin.len_ #[t] ty #[u]).run P w = .ok x w ∧ FR w A (.int .i64 r.length) x ∧ x.oneCell' = true:=by
 cases hv with
 | refDead _ _ hd => unfold rowsOf at hr;rw [hd] at hr;cases hr
 | refNil _ ad hb hr2 => rw [hr] at hr2;cases hr2;exact ⟨.int .i64 0,by simp [Builtin.len_,run_underlying ht,goInt],.int _ _,rfl⟩
 | refAt _ b o1 s cap n hb rows hr2 hn => rw [hr] at hr2;cases hr2;subst hn;exact ⟨.int .i64 r.length,by simp [Builtin.len_,run_underlying ht,goInt],.int _ _,rfl⟩
omit hty in
theorem lenMap_run {t kt e ty : TypeId} {id : Nat} {ag : Bool} {es : List (FV × FV)} {u : Value} (ht : P.underlying t = some (.map kt e)) (hid : H[id]? = some (Blk.map ag es)) (hp : HRel B0 G T w A β H) (hv : VR w A β H (.mp id) u) : ∃ x,(Builtin.len_ #[t] ty #[u]).run P w = .ok x w ∧ FR w A (.int .i64 es.length) x ∧ x.oneCell' = true:=by
 obtain ⟨b,es',ck,h1,h2,h3⟩:=hp.blk id _ hid
 cases hv with
 | mp _ b2 hb hl =>
  rw [hb] at h1;cases h1
  refine ⟨.int .i64 es'.size,by simp [Builtin.len_,run_underlying ht,goInt,getObj,Sem.run,h2],?_,rfl⟩
  have : es.length = es'.size:=by simpa using h3.1.1
  rw [this];exact .int _ _
omit hty in
theorem minmax_run {b : Bool} {k : V → R} : ∀ (rest : List Operand) (x : FV) (c : Value),FRel L w A β H F a → FR w A x c → c.oneCell' = true → minmaxK b x (rest.map (evalV F)) k = some res →
  ∃ z u,(List.foldlM (m:=Sem) (fun c d => if b = true then Builtin.max2 c d else Builtin.min2 c d) c (rest.map a.eval)).run P w = .ok u w ∧ FR w A z u ∧ u.oneCell' = true ∧ k (.f z) = some res
 | [],x,c,hf,hx,h1,h => ⟨x,c,by simp,hx,h1,by simpa [minmaxK] using h⟩
 | p :: rest,x,c,hf,hx,h1,h => by
  rw [List.map_cons] at h
  have hp:=evalV_rel hf p
  generalize hv : evalV F p = v at h hp
  cases v with
  | f y =>
   simp only [minmaxK] at h
   obtain ⟨z,h2,h3⟩:=bindO_some h
   obtain ⟨u,h4,h5⟩:=fMinMax_run (P:=P) h2 hx hp.f'.1
   have h6 : u.oneCell' = true:=by
    unfold fMinMax at h2
    split at h2
    ·split at h2
     ·cases h2;cases h5;rfl
     ·cases h2
    ·cases h2
   obtain ⟨z',u',g1,g2,g3,g4⟩:=minmax_run rest z u hf h5 h6 h3
   exact ⟨z',u',by simp [List.foldlM_cons,h4,g1],g2,g3,g4⟩
  | _ => simp [minmaxK] at h
omit hty in
theorem minmax_ok {k : V → Hp → R} {c : Call} {b : Bool} {x : FV} {rest : List V} (ho : o.op = .call c) (hc : c.callee = .builtin (if b then .max else .min)) (hargs : c.args.toList.map (evalV F) = .f x :: rest)
  (st : St L B0 G T w0 F H a w A β) (hn : Nxt L B0 G T w0 F a o next res k) (h : minmaxK b x rest (fun v => k v H) = some res) : o.wp P a w next Q:=by
 obtain ⟨l,hl⟩ : ∃ l,c.args.toList = l:=⟨_,rfl⟩
 rw [hl] at hargs
 cases l with
 | nil => cases hargs
 | cons p ps =>
  simp only [List.map_cons,List.cons.injEq] at hargs
  obtain ⟨hp,rfl⟩:=hargs
  have hpv:=hp ▸ st.ev p
  obtain ⟨z,u,h1,h2,h3,h4⟩:=minmax_run (P:=P) ps x (a.eval p) st.fr hpv.f'.1 hpv.f'.2 h
  refine wp_val st hn h4 (.f _ _ h2 h3) ?_
  obtain ⟨cs,h6⟩:=run_builtin (P:=P) (w:=w) (a:=a) ho hc
  rw [h6]
  cases b
  ·simp only [Bool.false_eq_true,if_false] at h1 ⊢
   simp [invoke,builtin,Builtin.min_,hl,h1]
  ·simp only [if_true] at h1 ⊢
   simp [invoke,builtin,Builtin.max_,hl,h1]
end
end Go.Proofs.YtpffkpaiihcffaaGreatDoor.VM
