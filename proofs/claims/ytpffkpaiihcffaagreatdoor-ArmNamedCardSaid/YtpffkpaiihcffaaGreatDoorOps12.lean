/- Operations, continued: maps turned, iterators. -/
import Derived.Test.YtpffkpaiihcffaaGreatDoorOps11
set_option linter.unusedVariables false
set_option linter.unusedSimpArgs false
set_option linter.unusedSectionVars false
namespace Go.Proofs.YtpffkpaiihcffaaGreatDoor.VM
open Go Go.RowKit
section
variable {P : Program} {E : Env} {L : List (Fr × Act)} {B0 : Nat} {G T : Nat → Prop} {w0 w w' : World} {A : Nat → Prop} {β : LocOf} {H : Hp} {F : Fr} {a : Act} {o : Oper}
variable {next : Act → World → Prop} {Q : Exit → Act → World → Prop} {res : FV}
def objSet (w : World) (b : Nat) (o : Obj) : World:={ w with heap:=w.heap.setIfInBounds b o }
theorem objSet_get {b : Nat} {o1 o2 : Obj} (h : w.heap[b]? = some o1) : (objSet w b o2).heap[b]? = some o2 ∧ (∀ b',b' ≠ b → (objSet w b o2).heap[b']? = w.heap[b']?) ∧ (objSet w b o2).heap.size = w.heap.size:=by
 have hlt : b < w.heap.size:=(Array.getElem?_eq_some_iff.1 h).1
 refine ⟨by simp [objSet,hlt],fun b' hb' => ?_,by simp [objSet]⟩
 simp [objSet,Ne.symm hb']
theorem run_setMap {b : Nat} {es : Array MapEntry} {ck : Nat} (o2 : Obj) (h : w.heap[b]? = some (.map es ck)) : (setObj b o2).run P w = .ok () (objSet w b o2):=by
 simp [setObj,Sem.run,h,objSet]
theorem run_setIt {b : Nat} {s : ByteArray} {n : Nat} (o2 : Obj) (h : w.heap[b]? = some (.stringIter s n)) : (setObj b o2).run P w = .ok () (objSet w b o2):=by
 simp [setObj,Sem.run,h,objSet]
theorem turn_map {id b : Nat} {ag : Bool} {es es2 : List (FV × FV)} {es' es2' : Array MapEntry} {ck ck2 : Nat} (st : St L B0 G T w0 F H a w A β) (hold : ∀ (i : Nat) r,H[i]? ≠ some (.old r)) (hid : H[id]? = some (Blk.map ag es)) (hb : β id = .at b 0 0 0) (hw : w.heap[b]? = some (.map es' ck))
  (he : EntriesR w A es2 es2'.toList) (hone : ag = false → ∀ e ∈ es2'.toList,e.val.oneCell' = true) : St L B0 G T w0 F (H.set id (.map ag es2)) a (objSet w b (.map es2' ck2)) A β:=by
 obtain ⟨g1,g2,g3⟩:=objSet_get (o2:=.map es2' ck2) hw
 have hours:=st.hp.ours id b 0 0 0 _ hid rfl hb
 have fe0 : FExt w A (objSet w b (.map es2' ck2)) A:=⟨fun _ h => h,fun b' hb' => g2 b' (fun e => hours.2 (e ▸ hb'))⟩
 have heSet : HExt β H β (H.set id (.map ag es2)):=HExt.set hid (fun r hr => by unfold rowsOf at hr;rw [hid] at hr;cases hr) (by simp)
 obtain ⟨fe,hp⟩:=st.hp.turn (k':=.map ag es2) hid rfl hb hold g3 g2 heSet rfl ⟨b,es2',ck2,rfl,g1,he.mono fe0,hone⟩
 exact ⟨st.fr.mono fe heSet,hp,st.below_turn hours.1 rfl rfl rfl g3 g2⟩
theorem key_any {A2 : Nat → Prop} {agg : Bool} {sk : List SK} {z : FV} {c : Value} (hkey2 : FR w A2 z c) (hok : keyOk agg sk z = true) : FR w A z c:=by
  unfold keyOk at hok
  have scal : ∀ {s : SK} {y : FV} {c : Value},FR w A2 y c → scalOk s y = true → FR w A y c:=by
   intro s y c hy hs
   unfold scalOk at hs
   split at hs
   ·cases hy;exact .bool _
   ·cases hy;exact .int _ _
   ·cases hy;exact .str _
   ·cases hs
  split at hok
  ·split at hok
   ·rename_i s0 ss cs
    cases hkey2 with
    | agg _ us hl ho1 hx1 =>
     refine .agg _ us hl ho1 fun j y c hy hc => ?_
     have hall : ∀ (sk : List SK) (cs : List FV),cellsOk sk cs = true → ∀ y ∈ cs,∃ s,scalOk s y = true:=by
      intro sk
      induction sk with
      | nil => intro cs h y hy;cases cs <;> simp [cellsOk] at h;cases hy
      | cons s sk ih =>
       intro cs h y hy
       cases cs with
       | nil => cases hy
       | cons c cs =>
        simp only [cellsOk,Bool.and_eq_true] at h
        rcases List.mem_cons.1 hy with rfl | hy
        ·exact ⟨s,h.1⟩
        ·exact ih cs h.2 y hy
     obtain ⟨s,hs⟩:=hall _ cs hok y (List.mem_of_getElem? hy)
     exact scal (hx1 j y c hy hc) hs
   ·cases hok
  ·split at hok
   ·exact scal hkey2 hok
   ·cases hok
variable (hty : TyOk P E.ty)
include hty
theorem mapUpdate_ok {k : V → Hp → R} {t : TypeId} {m key x : Operand} {ag ag' : Bool} {kt e id : Nat} {es es2 es3 : List (FV × FV)} (ho : o.op = .mapUpdate t m key x ∨ o.op = .insert t m key x) (ht : (E.ty t).k = .map kt e) (hm : evalV F m = .mp id) (hid : H[id]? = some (Blk.map ag es))
  (hag : sameB ag (E.ty e).isAgg = true) (hfitk : fitsV (E.ty kt).isAgg (evalV F key) = true) (hfit : fitsV (E.ty e).isAgg (evalV F x) = true) (hok : keyOk (E.ty kt).isAgg (E.ty kt).sk (frz H (evalV F key)) = true)
  (hput : mPut (E.ty kt).isAgg (E.ty kt).sk es (frz H (evalV F key)) (frz H (evalV F x)) = some es2) (hstill : (settle (marks H (evalV F x)))[id]? = some (Blk.map ag' es3))
  (st : St L B0 G T w0 F H a w A β) (hn : Nxt L B0 G T w0 F a o next res k) (h : k .un ((settle (marks H (evalV F x))).set id (.map ag es2)) = some res) : o.wp P a w next Q:=by
 have hfact:=(hty t).k
 rw [ht] at hfact
 obtain ⟨hte,_⟩:=hfact
 obtain ⟨A1,fe1,he1,hp1,hin⟩:=marks_rel st.hp (evalV F x)
 obtain ⟨he2,hp2⟩:=settle_rel hp1
 have hval:=frz_rel st.hp fe1 (st.ev x) hin
 obtain ⟨A2,fe2,_,_,hin2⟩:=marks_rel st.hp (evalV F key)
 have hkey2:=frz_rel st.hp fe2 (st.ev key) hin2
 have hkey : FR w A (frz H (evalV F key)) (a.eval key):=key_any hkey2 hok
 have hsk:=(hty kt).sk (keyOk_ne hok)
 have hH2 : H[id]? = some (Blk.map ag es):=hid
 have hmk : (marks H (evalV F x))[id]? = some (Blk.map ag es):=by
  unfold marks
  generalize idsV 4 (evalV F x) = ids
  have : ∀ (ids : List Nat) (K : Hp),K[id]? = some (Blk.map ag es) → (ids.foldl markOne K)[id]? = some (Blk.map ag es):=by
   intro ids
   induction ids with
   | nil => intro K hK;exact hK
   | cons i ids ih =>
    intro K hK
    refine ih _ ?_
    unfold markOne
    split
    ·rename_i s0 r hr
     rw [get_set_hp,if_neg (fun q => by rw [q.1] at hr;rw [hK] at hr;cases hr)];exact hK
    ·rename_i cs hr
     split
     ·rw [get_set_hp,if_neg (fun q => by rw [q.1] at hr;rw [hK] at hr;cases hr)];exact hK
     ·exact hK
    ·exact hK
  exact this ids H hid
 have hset : (settle (marks H (evalV F x)))[id]? = some (Blk.map ag es):=settle_get hmk (by simp)
 obtain ⟨b,es',ck,h1,h2,h3,h4⟩:=hp2.blk id _ hset
 have st2 : St L B0 G T w0 F (settle (marks H (evalV F x))) a w A1 β:=⟨st.fr.mono fe1 (he1.trans he2),hp2,st.below⟩
 obtain ⟨ri,hri,hcase⟩:=mPut_idx hput
 have hkeyA1:=hkey.mono fe1
 obtain ⟨r',hfind,hfound⟩:=findKey_rel (w:=w) hsk hkeyA1 h3 hri
 have hchk:=checkKey_rel (P:=P) (w:=w) (em:=false) hsk hkeyA1 hok
 have hmv:=hm ▸ st.ev m
 generalize hc : a.eval m = c at hmv
 have hcv : c = .map (some b):=by
  cases hmv with
  | mp _ b2 hb hl => rw [hb] at h1;cases h1;rfl
 subst hcv
 have hag2 : ag = (E.ty e).isAgg:=by cases ag <;> cases hh : (E.ty e).isAgg <;> rw [hh] at hag <;> first | rfl | cases hag
 have hone : ag = false → (a.eval x).oneCell' = true:=fun hf => fits_one hfit (st.ev x) (by rw [← hag2];exact hf)
 have hget : (getObj b).run P w = .ok (.map es' ck) w:=by simp [getObj,Sem.run,h2]
 rcases hcase with ⟨rfl,rfl⟩ | ⟨i,rfl,hi,rfl⟩
 ·rcases hfound with ⟨_,rfl⟩ | ⟨i,p,e',q1,_⟩
  ·have st3:=turn_map (es2':=es'.push { key:=a.eval key,val:=a.eval x,born:=ck }) (ck2:=ck + 1) st2 (fun i r => no_old i r) hset h1 h2 (by
    rw [Array.toList_push]
    exact entries_push (p:=(frz H (evalV F key),frz H (evalV F x))) (e:={ key:=a.eval key,val:=a.eval x,born:=ck }) h3 hkeyA1 hval) (fun hf e1 he1 => by
    rw [Array.toList_push] at he1
    rcases List.mem_append.1 he1 with h5 | h5
    ·exact h4 hf e1 h5
    ·simp at h5;subst h5;exact hone hf)
   refine wp_skp hn h st3 ?_
   rcases ho with ho | ho <;> simp [execOp,ho,hc,Instr.mapUpdate,run_underlying hte,hget,hchk,hfind,run_setMap _ h2]
  ·cases q1
 ·rcases hfound with ⟨q1,_⟩ | ⟨i',p',e',q1,q2,q3,rfl,q4⟩
  ·cases q1
  ·cases q1
   have hes : es'[i]? = some e':=by simpa using q3
   have hsame:=keyEq_same (w:=w) (A:=A1) hkeyA1 (h3.2 i p' e' q2 q3).1 q4
   have hmod : (es'.modify i fun e => { e with key:=a.eval key,val:=a.eval x }).toList = es'.toList.set i { e' with key:=a.eval key,val:=a.eval x }:=by
    rw [Array.toList_modify]
    apply List.ext_getElem?
    intro j
    rw [List.getElem?_modify,List.getElem?_set]
    by_cases hij : i = j
    ·subst hij
     have hl : i < es'.toList.length:=(List.getElem?_eq_some_iff.1 q3).1
     simp [q3,hl]
     have:=(Array.getElem?_eq_some_iff.1 hes).1
     simp [this,hes]
    ·simp [hij]
   have st3:=turn_map (es2':=es'.modify i fun e => { e with key:=a.eval key,val:=a.eval x }) (ck2:=ck) st2 (fun i r => no_old i r) hset h1 h2 (by
    rw [hmod]
    exact entries_set (p:=(frz H (evalV F key),frz H (evalV F x))) (e:={ e' with key:=a.eval key,val:=a.eval x }) h3 hkeyA1 hval) (fun hf e1 he1 => by
    rw [hmod] at he1
    rcases List.mem_or_eq_of_mem_set he1 with h5 | h5
    ·exact h4 hf e1 h5
    ·subst h5;exact hone hf)
   refine wp_skp hn h st3 ?_
   rcases ho with ho | ho <;> simp [execOp,ho,hc,Instr.mapUpdate,run_underlying hte,hget,hchk,hfind,hes,Instr.keyThatStays,hsame,run_setMap _ h2]
omit hty in
theorem next_ok {k : V → Hp → R} {x : Operand} {id pos : Nat} {s : FV} {r : Bool × Int × Nat} (ho : o.op = .next x true) (hx : evalV F x = .it id) (hid : H[id]? = some (.sit s pos)) (hr : fNext s pos = some r) (st : St L B0 G T w0 F H a w A β) (hn : Nxt L B0 G T w0 F a o next res k)
  (h : fCond (.bool r.1) (k (.tup [.f (.bool true),.f (.int .i64 pos),.f (.int .i32 r.2.1)]) ((settle H).set id (.sit s r.2.2))) (k (.tup [.f (.bool false)]) H) = some res) : o.wp P a w next Q:=by
 obtain ⟨b,t,h1,h2,h3⟩:=st.hp.blk id _ hid
 have hxv:=hx ▸ st.ev x
 generalize hc : a.eval x = c at hxv
 have hcv : c = .pointer (some ⟨b,0,none⟩):=by
  cases hxv with
  | it _ b2 hb hl => rw [hb] at h1;cases h1;rfl
 subst hcv
 have hget : (getObj b).run P w = .ok (.stringIter t pos) w:=by simp [getObj,Sem.run,h2]
 have hs : ∃ l,s = .str l:=by
  unfold fNext at hr
  split at hr
  ·exact ⟨_,rfl⟩
  ·cases hr
 obtain ⟨l0,rfl⟩:=hs
 cases h3 with
 | str _ =>
  have harr : (⟨t.data.toList.toArray⟩ : ByteArray) = t:=by simp
  have hlen : t.data.toList.length = t.size:=by simp
  unfold fNext at hr
  simp only at hr
  split at hr
  ·rename_i hlt
   rw [harr] at hr
   cases hr
   simp only [fCond] at h
   rw [hlen] at hlt
   obtain ⟨he1,hp1⟩:=settle_rel st.hp
   have hid1 : (settle H)[id]? = some (.sit (.str t.data.toList) pos):=settle_get hid (by simp)
   obtain ⟨g1,g2,g3⟩:=objSet_get (o2:=.stringIter t (pos + (Utf8.decode t pos).2)) h2
   have hours:=hp1.ours id b 0 0 0 _ hid1 rfl h1
   have heSet : HExt β (settle H) β ((settle H).set id (.sit (.str t.data.toList) (pos + (Utf8.decode t pos).2))):=HExt.set hid1 (fun r hr => by unfold rowsOf at hr;rw [hid1] at hr;cases hr) (by simp)
   obtain ⟨fe,hp2⟩:=hp1.turn (k':=.sit (.str t.data.toList) (pos + (Utf8.decode t pos).2)) hid1 rfl h1 (fun i r => no_old i r) g3 g2 heSet rfl ⟨b,t,rfl,g1,.str t⟩
   refine wp_val' (w':=objSet w b (.stringIter t (pos + (Utf8.decode t pos).2))) (u:=.tuple #[.bool true,goInt pos,.int .i32 (Utf8.decode t pos).1]) hn h ?_ ⟨st.fr.mono fe (he1.trans heSet),hp2,st.below_turn hours.1 rfl rfl rfl g3 g2⟩ ?_
   ·have:=VR.tup (w:=objSet w b (.stringIter t (pos + (Utf8.decode t pos).2))) (A:=A) (β:=β) (H:=(settle H).set id (.sit (.str t.data.toList) (pos + (Utf8.decode t pos).2))) [.f (.bool true),.f (.int .i64 pos),.f (.int .i32 (Utf8.decode t pos).1)] [.bool true,goInt pos,.int .i32 (Utf8.decode t pos).1] rfl (by
     intro j x c hx hc
     match j with
     | 0 => cases hx;cases hc;exact .f _ _ (.bool _) rfl
     | 1 => cases hx;cases hc;exact .f _ _ (.int _ _) rfl
     | 2 => cases hx;cases hc;exact .f _ _ (.int _ _) rfl
     | j + 3 => cases hx)
    exact this
   ·simp [execOp,ho,hc,Instr.next,hget,hlt,run_setIt _ h2]
  ·rename_i hlt
   cases hr
   simp only [fCond] at h
   rw [hlen] at hlt
   refine wp_val st hn h (u:=.tuple #[.bool false]) ?_ (by simp [execOp,ho,hc,Instr.next,hget,hlt])
   exact VR.tup [.f (.bool false)] [.bool false] rfl (by
    intro j x c hx hc
    match j with
    | 0 => cases hx;cases hc;exact .f _ _ (.bool _) rfl
    | j + 1 => cases hx)
end
end Go.Proofs.YtpffkpaiihcffaaGreatDoor.VM
