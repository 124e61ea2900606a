/- Regions that draw: what turns the heap does the same where a block more has been laid. -/
import Derived.Test.YtpffkpaiihcffaaGreatDoorDraw5
set_option linter.unusedVariables false
set_option linter.unusedSimpArgs false
set_option linter.unusedSectionVars false
namespace Go.Proofs.YtpffkpaiihcffaaGreatDoor.VM
open Go Go.RowKit
section
variable {E : Env} {call : Nat → List FV → Option FV} {inl : Inl} {cuts : List Nat} {ops : Array Oper} {o : Oper} {nid : Nat} {F F2 : Fr} {H H2 : Hp} {res : FV} {U : List Tok} {n : Nat} {b : Blk}
def Blk.fresh : Blk → Bool | .own _ _ | .box _ | .map _ _ => true | _ => false
theorem fresh_free (h : b.fresh = true) : b ≠ .free:=by intro e;subst e;cases h
theorem fresh_settle (h : b.fresh = true) : settleB b = b:=by cases b <;> first | rfl | cases h
theorem settle_set (hb : b.fresh = true) : settle (H.set n b) = (settle H).set n b:=by
 simp only [settle,List.map_set,fresh_settle hb]
theorem markOne_set {id : Nat} (h : id ≠ n) : markOne (H.set n b) id = (markOne H id).set n b:=by
 unfold markOne
 rw [List.getElem?_set_ne (Ne.symm h)]
 cases hb : H[id]? with
 | none => rfl
 | some c =>
  cases c with
  | own s r => exact List.set_comm _ _ (Ne.symm h)
  | box cs =>
   cases hx : cellsF cs with
   | none => simp only [hx]
   | some xs => simp only [hx];exact List.set_comm _ _ (Ne.symm h)
  | _ => rfl
theorem markL_set : ∀ (ids : List Nat) (H : Hp),n ∉ ids → ids.foldl markOne (H.set n b) = (ids.foldl markOne H).set n b
 | [],H,h => rfl
 | i :: ids,H,h => by
  simp only [List.mem_cons,not_or] at h
  simp only [List.foldl_cons]
  rw [markOne_set (Ne.symm h.1),markL_set ids _ h.2]
theorem marks_set {v : V} (h : n ∉ idsV 4 v) : marks (H.set n b) v = (marks H v).set n b:=markL_set _ _ h
theorem marksAll_set {vs : List V} (h : ∀ v ∈ vs,n ∉ idsV 4 v) : vs.foldl marks (H.set n b) = (vs.foldl marks H).set n b:=by
 rw [marksAll_eq,marksAll_eq]
 refine markL_set _ _ fun hm => ?_
 obtain ⟨v,hv,hi⟩:=List.mem_flatMap.1 hm
 exact h v hv hi
theorem rowsF_set {id : Nat} (h : id ≠ n) : rowsF (H.set n b) id = rowsF H id:=by simp only [rowsF,List.getElem?_set_ne (Ne.symm h)]
theorem rowsOf_set {id : Nat} (h : id ≠ n) : rowsOf (H.set n b) id = rowsOf H id:=by simp only [rowsOf,List.getElem?_set_ne (Ne.symm h)]
theorem boxF_set {id : Nat} (h : id ≠ n) : boxF (H.set n b) id = boxF H id:=by simp only [boxF,List.getElem?_set_ne (Ne.symm h)]
theorem frzV_set : ∀ (m : Nat) (v : V),n ∉ idsV m v → frzV m (H.set n b) v = frzV m H v
 | 0,v,h => rfl
 | m + 1,v,h => by
  cases v with
  | ref id => simp only [idsV,List.mem_singleton] at h;simp only [frzV];rw [rowsF_set (Ne.symm h)]
  | ptr id i o => simp only [idsV,List.mem_singleton] at h;simp only [frzV];rw [boxF_set (Ne.symm h)]
  | agg cs =>
   have hm : cs.map (frzV m (H.set n b)) = cs.map (frzV m H):=List.map_congr_left fun c hc => frzV_set m c fun hi => h (List.mem_flatMap.2 ⟨c,hc,hi⟩)
   show (match cs.all isOne with | true => FV.agg (cs.map (frzV m (H.set n b))) | false => FV.undef) = match cs.all isOne with | true => FV.agg (cs.map (frzV m H)) | false => FV.undef
   rw [hm]
  | tup cs =>
   have hm : cs.map (frzV m (H.set n b)) = cs.map (frzV m H):=List.map_congr_left fun c hc => frzV_set m c fun hi => h (List.mem_flatMap.2 ⟨c,hc,hi⟩)
   show FV.tup (cs.map (frzV m (H.set n b))) = FV.tup (cs.map (frzV m H))
   rw [hm]
  | func g cs =>
   have hm : cs.map (frzV m (H.set n b)) = cs.map (frzV m H):=List.map_congr_left fun c hc => frzV_set m c fun hi => h (List.mem_flatMap.2 ⟨c,hc,hi⟩)
   show (match cs.all isOne with | true => FV.func g (cs.map (frzV m (H.set n b))) | false => FV.undef) = match cs.all isOne with | true => FV.func g (cs.map (frzV m H)) | false => FV.undef
   rw [hm]
  | _ => rfl
theorem live_not {v : V} (hf : H[n]? = some .free) (h : liveV H v = true) : n ∉ idsV 4 v:=by
 intro hi
 have:=List.all_eq_true.1 h n hi
 simp [hf] at this
theorem live_set {v : V} (hf : H[n]? = some .free) (h : liveV H v = true) : liveV (H.set n b) v = true:=by
 refine List.all_eq_true.2 fun id hi => ?_
 have hne : n ≠ id:=fun e => live_not hf h (e ▸ hi)
 rw [List.getElem?_set_ne hne]
 exact List.all_eq_true.1 h id hi
theorem lives_set {vs : List V} (hf : H[n]? = some .free) (h : vs.all (liveV H) = true) : vs.all (liveV (H.set n b)) = true :=
 List.all_eq_true.2 fun v hv => live_set hf (List.all_eq_true.1 h v hv)
theorem frz_set {v : V} (hf : H[n]? = some .free) (h : liveV H v = true) : frz (H.set n b) v = frz H v:=frzV_set 4 v (live_not hf h)
theorem frzC_set {v : V} {ag : Bool} {vs : List V} (hf : H[n]? = some .free) (h : liveV H v = true) (hc : cellsV ag v = some vs) : vs.map (frzC (H.set n b)) = vs.map (frzC H) :=
 List.map_congr_left fun u hu => frzV_set 3 u fun hi => live_not hf h (cellsV_ids hc u hu n hi)
theorem frzC_set' {vs : List V} (hf : H[n]? = some .free) (h : liveV H (.agg vs) = true) : vs.map (frzC (H.set n b)) = vs.map (frzC H) :=
 List.map_congr_left fun u hu => frzV_set 3 u fun hi => live_not hf h (List.mem_flatMap.2 ⟨u,hu,hi⟩)
theorem markTok_set {id : Nat} (h : id ≠ n) : markTok (H.set n b) id = markTok H id:=by simp only [markTok,List.getElem?_set_ne (Ne.symm h)]
theorem flatMap_eq {α β : Type} {l : List α} {f g : α → List β} (h : ∀ x ∈ l,f x = g x) : l.flatMap f = l.flatMap g:=by
 induction l with
 | nil => rfl
 | cons x l ih => rw [List.flatMap_cons,List.flatMap_cons,h x (by simp),ih fun y hy => h y (by simp [hy])]
theorem markToks_set {v : V} (h : n ∉ idsV 4 v) : markToks (H.set n b) v = markToks H v:=flatMap_eq fun id hi => markTok_set fun e => h (e ▸ hi)
theorem argToks_set {vs : List V} (h : ∀ v ∈ vs,n ∉ idsV 4 v) : argToks (H.set n b) vs = argToks H vs:=flatMap_eq fun v hv => markToks_set (h v hv)
theorem rowsLit_set {e : Nat} (hf : H[n]? = some .free) : ∀ (l : List (Nat × V)) (i : Nat),(∀ p ∈ l,liveV H p.2 = true) → rowsLit E (H.set n b) e i l = rowsLit E H e i l
 | [],i,h => rfl
 | (j,v) :: l,i,h => by
  simp only [rowsLit]
  split
  ·cases hc : cellsV (E.ty e).isAgg v with
   | none => rfl
   | some vs => simp only [frzC_set hf (h (j,v) (by simp)) hc,rowsLit_set hf l (i + 1) (fun p hp => h p (by simp [hp]))]
  ·rfl
theorem newB_set {α : Type} {c : Blk} {k : Hp → Option α} (h : nid ≠ n) (hf : H[nid]? = some .free) : newB (H.set n b) nid c k = k ((H.set nid c).set n b):=by
 simp only [newB,List.getElem?_set_ne (Ne.symm h),hf]
 rw [List.set_comm _ _ (Ne.symm h)]
theorem nid_ne {c : Blk} (hf : H[nid]? = some .free) (hc : c ≠ .free) (h : (H.set nid c)[n]? = some .free) : nid ≠ n:=by
 intro e
 subst e
 rw [get_set hf] at h
 cases h
 exact hc rfl
theorem nid_ne' {c : Blk} {H' : Hp} (hf : H[nid]? = some .free) (hc : c ≠ .free) (h : H'[n]? = some .free) (hu : ∀ U,Unch U (H.set nid c) H') : nid ≠ n:=nid_ne hf hc ((hu []).free n h)
theorem fCut_not {sz : Nat} {v : V} {lo hi : Option FV} {y : FV} (hf : H[n]? = some .free) (h : fCut sz (frz H v) lo hi = some y) : n ∉ idsV 4 v:=by
 cases v with
 | ref id =>
  simp only [idsV,List.mem_singleton]
  intro e
  subst e
  simp [frz,frzV,rowsF,hf,fCut] at h
 | f x => simp [idsV]
 | ptr id i o =>
  exfalso
  simp only [frz,frzV] at h
  split at h
  ·split at h <;> simp [fCut] at h
  ·simp [fCut] at h
 | agg cs =>
  exfalso
  have : frz H (.agg cs) = (match cs.all isOne with | true => FV.agg (cs.map (frzV 3 H)) | false => FV.undef):=rfl
  rw [this] at h
  split at h <;> simp [fCut] at h
 | tup cs =>
  exfalso
  have : frz H (.tup cs) = FV.tup (cs.map (frzV 3 H)):=rfl
  rw [this] at h
  simp [fCut] at h
 | func g cs =>
  exfalso
  have : frz H (.func g cs) = (match cs.all isOne with | true => FV.func g (cs.map (frzV 3 H)) | false => FV.undef):=rfl
  rw [this] at h
  split at h <;> simp [fCut] at h
 | _ => simp [idsV]
theorem backCells_set {js : List (Nat × Nat)} {x : FV} {k k2 : List V → Nat → Hp → R} : ∀ (m j nid : Nat) (H : Hp) (acc : List V),backCells js x j m nid H acc k = some res →
  (∀ vs q H',k vs q H' = some res → H'[n]? = some .free ∧ k2 vs q (H'.set n b) = some res) → backCells js x j m nid (H.set n b) acc k2 = some res
 | 0,j,nid,H,acc,h,hk => (hk _ _ _ h).2
 | m + 1,j,nid,H,acc,h,hk => by
  simp only [backCells] at h ⊢
  split at h
  ·obtain ⟨r,hr,h⟩:=bindO_some h
   obtain ⟨hf,h⟩:=newB_some h
   obtain ⟨vs,q,H',h1,h2⟩:=backCells_unch _ _ _ _ _ _ h
   have hne:=nid_ne' hf (by simp) (hk _ _ _ h1).1 h2
   simp only [hr,bindO]
   rw [newB_set hne hf]
   exact backCells_set m _ _ _ _ h hk
  ·exact backCells_set m _ _ _ _ h hk
theorem backK_set {own : List (Nat × Nat × Nat)} {k k2 : List V → Hp → R} : ∀ (ts : List Nat) (i nid : Nat) (xs : List FV) (H : Hp) (acc : List V),backK E own i nid ts xs H acc k = some res →
  (∀ vs H',k vs H' = some res → H'[n]? = some .free ∧ k2 vs (H'.set n b) = some res) → backK E own i nid ts xs (H.set n b) acc k2 = some res
 | [],i,nid,xs,H,acc,h,hk => by simp only [backK] at h ⊢;exact (hk _ _ h).2
 | t :: ts,i,nid,[],H,acc,h,hk => by simp [backK] at h
 | t :: ts,i,nid,x :: xs,H,acc,h,hk => by
  simp only [backK] at h ⊢
  split at h
  ·obtain ⟨v,h,e⟩:=splitAs_some h
   simp only [*]
   exact backK_set ts _ _ _ _ _ h hk
  ·split at h
   ·obtain ⟨hg,h⟩:=gB_some h
    simp only [hg,gB]
    refine backCells_set _ _ _ _ _ h fun vs q H' h1 => ?_
    obtain ⟨vs',H'',h2,h3⟩:=backK_unch _ _ _ _ _ _ _ h1
    exact ⟨(h3 []).free n (hk _ _ h2).1,backK_set ts _ _ _ _ _ h1 hk⟩
   ·obtain ⟨r,hr,h⟩:=bindO_some h
    obtain ⟨hf,h⟩:=newB_some h
    obtain ⟨vs',H'',h2,h3⟩:=backK_unch _ _ _ _ _ _ _ h
    simp only [hr,bindO]
    rw [newB_set (nid_ne' hf (by simp) (hk _ _ h2).1 h3) hf]
    exact backK_set ts _ _ _ _ _ h hk
theorem append_set {e : Nat} {bs : Bool} {s x : V} {k k2 : V → Hp → R} (hf : H[n]? = some .free) (hb : b.fresh = true) (h : appendK E nid H e bs s x k = some res)
  (hk : ∀ v H',k v H' = some res → H'[n]? = some .free ∧ k2 v (H'.set n b) = some res) : appendK E nid (H.set n b) e bs s x k2 = some res:=by
 unfold appendK at h ⊢
 obtain ⟨h0,h⟩:=gB_some h
 rw [h0]
 simp only [gB]
 obtain ⟨ys,h,hs⟩:=srcRows_some h
 have hsrc : ∀ k',srcRows (H.set n b) bs x k' = k' ys:=by
  intro k'
  rw [← hs k']
  unfold srcRows
  cases bs with
  | true => rfl
  | false =>
   cases x with
   | ref id =>
    simp only
    rw [rowsOf_set]
    intro he
    subst he
    have:=hs fun _ => some .undef
    simp [srcRows,rowsOf,hf] at this
   | _ => rfl
 rw [hsrc]
 obtain ⟨h1,h⟩:=gB_some h
 simp only [h1]
 cases s with
 | f y =>
  obtain ⟨hy,h⟩:=onNil_some h
  subst hy
  obtain ⟨h2,h⟩:=gB_some h
  obtain ⟨hfn,h⟩:=newB_some h
  simp only [h2,onNil]
  rw [newB_set (nid_ne hfn (by simp) (hk _ _ h).1) hfn]
  exact (hk _ _ h).2
 | ref id =>
  simp only at h ⊢
  split at h
  ·rename_i sz r hbl
   have hid : id ≠ n:=fun e => by subst e;rw [hf] at hbl;cases hbl
   obtain ⟨h2,h⟩:=gB_some h
   obtain ⟨h3,h⟩:=gB_some h
   obtain ⟨hfn,h⟩:=newB_some h
   rw [List.getElem?_set_ne (Ne.symm hid),hbl]
   simp only [h2,h3]
   rw [settle_set hb,List.set_comm _ _ (Ne.symm hid),newB_set (nid_ne hfn (by simp) (hk _ _ h).1) hfn]
   exact (hk _ _ h).2
  ·cases h
 | _ => cases h
theorem appendZ_set {e : Nat} {s x : V} {k k2 : V → Hp → R} (h : appendZ E nid H e s x k = some res)
  (hk : ∀ v H',k v H' = some res → H'[n]? = some .free ∧ k2 v (H'.set n b) = some res) : appendZ E nid (H.set n b) e s x k2 = some res:=by
 unfold appendZ at h ⊢
 split at h
 ·split at h
  ·obtain ⟨hy,h1⟩:=onNil_some h
   obtain ⟨m,hm,h3⟩:=bindO_some h1
   obtain ⟨h2,h4⟩:=gB_some h3
   obtain ⟨hfn,h5⟩:=newB_some h4
   subst hy
   simp only [onNil,hm,bindO,h2,gB]
   rw [newB_set (nid_ne hfn (by simp) (hk _ _ h5).1) hfn]
   exact (hk _ _ h5).2
  ·cases h
 ·cases h
theorem moveOk_set {args : List V} {ls : List (Nat × Nat × Bool)} (hf : H[n]? = some .free) (h : moveOk H ls args = true) : moveOk (H.set n b) ls args = true:=by
 refine List.all_eq_true.2 fun q hq => ?_
 have h1:=List.all_eq_true.1 h q hq
 split at h1
 ·rename_i id hv
  split at h1
  ·rename_i s r hb
   have hne : n ≠ id:=fun e => by subst e;rw [hf] at hb;cases hb
   simp only [List.getElem?_set_ne hne,hb]
   exact h1
  ·cases h1
 ·rfl
 ·cases h1
theorem putBackK_set {args : List V} {k k2 : Hp → R} : ∀ (ls : List (Nat × Nat × Bool)) (zs : List FV) (H : Hp),(∀ id ∈ moveIds ls args,id ≠ n) → putBackK ls args zs H k = some res →
  (∀ H',k H' = some res → k2 (H'.set n b) = some res) → putBackK ls args zs (H.set n b) k2 = some res
 | [],zs,H,_,h,hk => hk _ h
 | q :: ls,zs,H,hu,h,hk => by
  simp only [putBackK] at h ⊢
  split at h
  ·rename_i id he
   rw [moveIds_ref he] at hu
   have hne:=hu id (by simp)
   have hu' : ∀ id ∈ moveIds ls args,id ≠ n:=fun i hi => hu i (by simp [hi])
   split at h
   ·rename_i hq
    split at h
    ·obtain ⟨r,hr,h⟩:=bindO_some h
     simp only [hr,bindO]
     rw [List.set_comm _ _ (Ne.symm hne)]
     exact putBackK_set ls _ _ hu' h hk
    ·cases h
   ·rename_i hq
    rw [List.set_comm _ _ (Ne.symm hne)]
    exact putBackK_set ls _ _ hu' h hk
  ·rename_i x he
   rw [moveIds_f he] at hu
   split at h
   ·exact putBackK_set ls _ _ hu h hk
   ·exact putBackK_set ls _ _ hu h hk
  ·cases h
theorem heavy_set {k k2 : V → Hp → R} (hf : H[n]? = some .free) (hb : b.fresh = true) (ht : touch E cuts o F H = some U) (h : opK E call inl cuts ops o nid F H k = some res)
  (hk : ∀ v H',k v H' = some res → H'[n]? = some .free ∧ k2 v (H'.set n b) = some res) : touch E cuts o F (H.set n b) = some U ∧ opK E call inl cuts ops o nid F (H.set n b) k2 = some res:=by
 have ne : ∀ {id : Nat} {c : Blk},H[id]? = some c → c ≠ .free → id ≠ n:=fun h1 h2 e => by subst e;rw [hf] at h1;cases h1;exact h2 rfl
 have at_ : ∀ {id : Nat} {c : Blk},H[id]? = some c → c ≠ .free → (H.set n b)[id]? = some c:=fun h1 h2 => by rw [List.getElem?_set_ne (Ne.symm (ne h1 h2))];exact h1
 cases ho : o.op with
 | store t p x =>
  simp only [touch,ho] at ht ⊢
  simp only [opK,ho,storeK] at h ⊢
  split at h
  ·rename_i vs hvs
   obtain ⟨h0,h⟩:=gB_some h
   simp only [h0]
   split at h
   ·rename_i id i o' hp
    simp only [hp,hvs] at ht
    split at h
    ·rename_i cs hbl
     obtain ⟨h1,h⟩:=gB_some h
     rw [hbl] at ht
     rw [at_ hbl (by simp)]
     refine ⟨ht,?_⟩
     simp only [gB,h1]
     rw [settle_set hb,List.set_comm _ _ (Ne.symm (ne hbl (by simp)))]
     exact (hk _ _ h).2
    ·rename_i s r hbl
     rw [hbl] at ht
     obtain ⟨hl,h⟩:=gB_some h
     obtain ⟨r',hr',h⟩:=bindO_some h
     rw [at_ hbl (by simp)]
     rw [markToks_set (live_not hf hl)]
     refine ⟨ht,?_⟩
     rw [live_set hf hl,frzC_set' hf hl]
     simp only [gB,hr',bindO]
     split at h
     ·rename_i s' r'' hb2
      rw [marks_set (live_not hf hl),settle_set hb,List.getElem?_set_ne (Ne.symm (ne hbl (by simp))),hb2]
      simp only
      rw [List.set_comm _ _ (Ne.symm (ne hbl (by simp)))]
      exact (hk _ _ h).2
     ·cases h
    ·cases h
   ·cases h
  ·cases h
 | mapUpdate t m key x =>
  simp only [touch,ho] at ht ⊢
  simp only [opK,ho] at h ⊢
  split at h
  ·rename_i kt e id _ hm
   simp only [hm] at ht
   split at h
   ·rename_i ag es hbl
    obtain ⟨h1,h⟩:=gB_some h
    obtain ⟨h2,h⟩:=gB_some h
    obtain ⟨es',he,h⟩:=bindO_some h
    simp only [Bool.and_eq_true] at h1
    rw [markToks_set (live_not hf h1.2)]
    refine ⟨by simp only [hm];exact ht,?_⟩
    rw [at_ hbl (by simp)]
    simp only [h1.1.1.1.1.1,h1.1.1.1.1.2,live_set hf h1.1.1.1.2,h1.1.1.2,h1.1.2,live_set hf h1.2,Bool.and_self,gB,frz_set hf h1.1.1.1.2,frz_set hf h1.2,h2,he,bindO]
    split at h
    ·rename_i ag' es'' hb2
     rw [marks_set (live_not hf h1.2),settle_set hb,List.getElem?_set_ne (Ne.symm (ne hbl (by simp))),hb2]
     simp only
     rw [List.set_comm _ _ (Ne.symm (ne hbl (by simp)))]
     exact (hk _ _ h).2
    ·cases h
   ·cases h
  ·cases h
 | insert t m key x =>
  simp only [touch,ho] at ht ⊢
  simp only [opK,ho] at h ⊢
  split at h
  ·rename_i kt e id _ hm
   simp only [hm] at ht
   split at h
   ·rename_i ag es hbl
    obtain ⟨h1,h⟩:=gB_some h
    obtain ⟨h2,h⟩:=gB_some h
    obtain ⟨es',he,h⟩:=bindO_some h
    simp only [Bool.and_eq_true] at h1
    rw [markToks_set (live_not hf h1.2)]
    refine ⟨by simp only [hm];exact ht,?_⟩
    rw [at_ hbl (by simp)]
    simp only [h1.1.1.1.1.1,h1.1.1.1.1.2,live_set hf h1.1.1.1.2,h1.1.1.2,h1.1.2,live_set hf h1.2,Bool.and_self,gB,frz_set hf h1.1.1.1.2,frz_set hf h1.2,h2,he,bindO]
    split at h
    ·rename_i ag' es'' hb2
     rw [marks_set (live_not hf h1.2),settle_set hb,List.getElem?_set_ne (Ne.symm (ne hbl (by simp))),hb2]
     simp only
     rw [List.set_comm _ _ (Ne.symm (ne hbl (by simp)))]
     exact (hk _ _ h).2
    ·cases h
   ·cases h
  ·cases h
 | slice t x lo hi mx =>
  have ht0:=ht
  simp only [touch,ho] at ht
  simp only [opK,ho] at h ⊢
  split at h
  ·rename_i lo' hi' mx' hlo hhi hmx
   have touchFree : n ∉ idsV 4 (evalV F x) → touch E cuts o F (H.set n b) = some U:=fun hn => by
    rw [← ht0]
    simp only [touch,ho]
    rw [markToks_set hn]
   split at h
   ·rename_i hts
    split at h
    ·rename_i s hs
     obtain ⟨v,hv,h⟩:=bindO_some h
     refine ⟨touchFree (by rw [hs];simp [idsV]),?_⟩
     simp only [hts,hs,hv,bindO]
     exact (hk _ _ h).2
    ·cases h
   ·rename_i e hts
    split at h
    ·rename_i hc
     split at h
     ·rename_i id hx
      split at h
      ·rename_i sz r hbl
       obtain ⟨h1,h⟩:=gB_some h
       obtain ⟨p,hp,h⟩:=bindO_some h
       obtain ⟨hfn,h⟩:=newB_some h
       refine ⟨touchFree (by rw [hx];simp only [idsV,List.mem_singleton];exact Ne.symm (ne hbl (by simp))),?_⟩
       rw [at_ hbl (by simp)]
       simp only [h1,gB,hp,bindO]
       rw [settle_set hb,List.set_comm _ _ (Ne.symm (ne hbl (by simp))),newB_set (nid_ne hfn (by simp) (hk _ _ h).1) hfn]
       exact (hk _ _ h).2
      ·cases h
     ·cases h
    ·rename_i hc
     obtain ⟨v,hv,h⟩:=bindO_some h
     have hn:=fCut_not hf hv
     refine ⟨touchFree hn,?_⟩
     simp only [hts,hc,frz,frzV_set 4 _ hn]
     simp only [frz] at hv
     simp only [hv,bindO,marks_set hn]
     exact (hk _ _ h).2
   ·rename_i e m hts
    split at h
    ·rename_i hh
     obtain ⟨a1,ha1,h⟩:=bindO_some h
     obtain ⟨a2,ha2,h⟩:=bindO_some h
     obtain ⟨h1,h⟩:=gB_some h
     obtain ⟨v,hv,h⟩:=bindO_some h
     have hn:=fCut_not hf hv
     refine ⟨touchFree hn,?_⟩
     simp only [hts,ha1,ha2,h1,gB,frz,frzV_set 4 _ hn,bindO]
     simp only [frz] at hv
     simp only [hv,marks_set hn]
     exact (hk _ _ h).2
    ·cases h
   ·cases h
  ·cases h
 | buildSlice t len parts =>
  simp only [touch,ho] at ht ⊢
  simp only [opK,ho] at h ⊢
  split at h
  ·rename_i e hts
   split at h
   ·rename_i r hr
    obtain ⟨h1,h⟩:=gB_some h
    simp only [Bool.and_eq_true] at h1
    have hl : ∀ v ∈ (parts.toList.map fun p => evalV F p.2),n ∉ idsV 4 v:=fun v hv => live_not hf (List.all_eq_true.1 h1.1.2 v hv)
    rw [argToks_set hl]
    refine ⟨ht,?_⟩
    rw [rowsLit_set hf _ _ (fun p hp => by
     obtain ⟨q,hq,rfl⟩:=List.mem_map.1 hp
     exact List.all_eq_true.1 h1.1.2 (evalV F q.2) (List.mem_map.2 ⟨q,hq,rfl⟩)),hr,marksAll_set hl]
    simp only [h1.1.1,lives_set hf h1.1.2,h1.2,Bool.and_self,gB]
    split at h
    ·exact (hk _ _ h).2
    ·obtain ⟨hfn,h⟩:=newB_some h
     rw [newB_set (nid_ne hfn (by simp) (hk _ _ h).1) hfn]
     exact (hk _ _ h).2
   ·cases h
  ·cases h
 | alloc t =>
  simp only [touch,ho] at ht ⊢
  simp only [opK,ho] at h ⊢
  obtain ⟨h1,h⟩:=gB_some h
  obtain ⟨hfn,h⟩:=newB_some h
  refine ⟨ht,?_⟩
  rw [h1,gB,newB_set (nid_ne hfn (by simp) (hk _ _ h).1) hfn]
  exact (hk _ _ h).2
 | box t x =>
  simp only [touch,ho] at ht ⊢
  simp only [opK,ho] at h ⊢
  split at h
  ·obtain ⟨h1,h⟩:=gB_some h
   obtain ⟨hfn,h⟩:=newB_some h
   refine ⟨ht,?_⟩
   rw [h1,gB,newB_set (nid_ne hfn (by simp) (hk _ _ h).1) hfn]
   exact (hk _ _ h).2
  ·cases h
 | makeSlice t l c =>
  simp only [touch,ho] at ht ⊢
  simp only [opK,ho] at h ⊢
  split at h
  ·obtain ⟨a1,ha1,h⟩:=bindO_some h
   obtain ⟨a2,ha2,h⟩:=bindO_some h
   obtain ⟨h1,h⟩:=gB_some h
   obtain ⟨hfn,h⟩:=newB_some h
   refine ⟨ht,?_⟩
   simp only [ha1,ha2,bindO]
   rw [h1,gB,newB_set (nid_ne hfn (by simp) (hk _ _ h).1) hfn]
   exact (hk _ _ h).2
  ·cases h
 | makeMap t r =>
  cases r with
  | some r => simp only [opK,ho] at h;cases h
  | none =>
   simp only [touch,ho] at ht ⊢
   simp only [opK,ho] at h ⊢
   split at h
   ·obtain ⟨hfn,h⟩:=newB_some h
    refine ⟨ht,?_⟩
    rw [newB_set (nid_ne hfn (by simp) (hk _ _ h).1) hfn]
    exact (hk _ _ h).2
   ·cases h
 | call c =>
  simp only [touch,ho] at ht ⊢
  simp only [opK,ho] at h ⊢
  split at ht
  ·rename_i hc
   simp only [hc] at h ⊢
   refine ⟨ht,?_⟩
   generalize c.args.toList.map (evalV F) = args at h ht ⊢
   generalize c.argTypes = ats at h ⊢
   rcases args with _ | ⟨s,_ | ⟨x,_ | ⟨y,rest⟩⟩⟩
   ·simp only [builtinK] at h;cases h
   ·simp only [builtinK] at h;cases h
   ·simp only [builtinK] at h ⊢
    split at h
    ·split at h
     ·exact append_set hf hb h hk
     ·exact append_set hf hb h hk
     ·exact appendZ_set h hk
     ·cases h
    ·cases h
   ·simp only [builtinK] at h;cases h
  ·rename_i g hc
   simp only [hc,evalV,List.append_nil,callK] at h ⊢
   split at h
   ·rename_i own lend fn hm hg
    obtain ⟨h1,h⟩:=gB_some h
    simp only [Bool.and_eq_true] at h1
    have hl : ∀ v ∈ (c.args.toList.map (evalV F)),n ∉ idsV 4 v:=fun v hv => live_not hf (List.all_eq_true.1 h1.2 v hv)
    have hfz : (c.args.toList.map (evalV F)).map (frz (H.set n b)) = (c.args.toList.map (evalV F)).map (frz H):=List.map_congr_left fun v hv => frzV_set 4 v (hl v hv)
    simp only [hm] at ht ⊢
    rw [argToks_set hl]
    refine ⟨ht,?_⟩
    simp only [h1.1,lives_set hf h1.2,Bool.and_self,gB]
    split at h
    ·split at h
     ·obtain ⟨h2,h⟩:=gB_some h
      obtain ⟨y,hy,h⟩:=bindO_some h
      obtain ⟨h3,h⟩:=gB_some h
      rw [hfz,h2,hy]
      simp only [bindO,h3]
      split at h
      ·exact (hk _ _ h).2
      ·cases h
     ·cases h
    ·obtain ⟨y,hy,h⟩:=bindO_some h
     obtain ⟨xs,h,hx⟩:=resultsOf_some h
     rw [hfz,hy,marksAll_set hl]
     simp only [bindO]
     rw [hx]
     exact backK_set _ _ _ _ _ _ h fun vs H' h2 => hk _ _ h2
   ·rename_i ls own fn hm hg
    simp only [hm] at ht ⊢
    unfold moveK at h ⊢
    obtain ⟨hcond,h⟩:=gB_some h
    simp only [Bool.and_eq_true] at hcond
    obtain ⟨⟨⟨⟨hfit,hmo⟩,hlive⟩,hnd⟩,hdis⟩:=hcond
    have hfs : (settle H)[n]? = some .free:=by simp [settle,hf,settleB]
    generalize c.args.toList.map (evalV F) = vs at h ht hfit hmo hlive hnd hdis ⊢
    have hl : ∀ v ∈ restV ls vs,n ∉ idsV 4 v:=fun v hv => live_not hfs (List.all_eq_true.1 hlive v hv)
    have hmn : ∀ id ∈ moveIds ls vs,id ≠ n:=fun id hid e => by
     obtain ⟨s,r,hb⟩:=moveOk_own hmo id hid
     subst e
     rw [hfs] at hb;cases hb
    have hall : ∀ v ∈ vs,n ∉ idsV 4 v:=by
     intro v hv
     obtain ⟨i,hi⟩:=List.getElem?_of_mem hv
     by_cases hm : i ∈ ls.map fun q => q.1
     ·obtain ⟨q,hq,rfl⟩:=List.mem_map.1 hm
      have h1:=List.all_eq_true.1 hmo q hq
      rw [hi] at h1
      split at h1
      ·rename_i id hv;cases hv
       have:=hmn id (List.mem_filterMap.2 ⟨q,hq,by rw [hi]⟩)
       simpa [idsV] using Ne.symm this
      ·rename_i hv;cases hv;simp [idsV]
      ·cases h1
     ·exact hl v (mem_rest hi hm)
    have hfz : vs.map (frz ((settle H).set n b)) = vs.map (frz (settle H)):=List.map_congr_left fun v hv => frzV_set 4 v (hall v hv)
    rw [settle_set hb,argToks_set hl]
    refine ⟨ht,?_⟩
    rw [hfz,marksAll_set hl]
    simp only [hfit,moveOk_set hfs hmo,lives_set hfs hlive,hnd,hdis,Bool.and_self,gB]
    obtain ⟨x,hx,h⟩:=bindO_some h
    obtain ⟨xs,h,hxs⟩:=resultsOf_some h
    rw [hx]
    simp only [bindO]
    rw [hxs]
    exact putBackK_set ls _ _ hmn h fun H2 h2 => backK_set _ _ _ _ _ _ h2 fun vs' H' h3 => hk _ _ h3
   ·rename_i hm _
    simp only [hm] at ht
    cases ht
   ·cases h
  ·rename_i fo hno hc
   simp only [hc] at h ⊢
   split at ht
   ·rename_i x hfo
    simp only [hfo] at h ⊢
    obtain ⟨h1,h⟩:=gB_some h
    obtain ⟨y,hy,h⟩:=bindO_some h
    obtain ⟨v,h,hv⟩:=splitAs_some h
    simp only [Bool.and_eq_true] at h1
    have hl : ∀ v ∈ (c.args.toList.map (evalV F)),n ∉ idsV 4 v:=fun v hv => live_not hf (by have:=List.all_eq_true.1 h1.1 v hv;simp only [Bool.and_eq_true] at this;exact this.2)
    have hfz : (c.args.toList.map (evalV F)).map (frz (H.set n b)) = (c.args.toList.map (evalV F)).map (frz H):=List.map_congr_left fun v hv => frzV_set 4 v (hl v hv)
    rw [argToks_set hl,hfz]
    refine ⟨ht,?_⟩
    have h2 : (c.args.toList.map (evalV F)).all (fun v => argOk v && liveV (H.set n b) v) = true:=List.all_eq_true.2 fun v hv => by
     have:=List.all_eq_true.1 h1.1 v hv
     simp only [Bool.and_eq_true] at this ⊢
     exact ⟨this.1,live_set hf this.2⟩
    simp only [h2,h1.2,Bool.and_self,gB,hy,bindO]
    rw [hv,marksAll_set hl]
    exact (hk _ _ h).2
   ·cases ht
  ·cases ht
 | _ => simp only [touch,ho] at ht;cases ht
theorem quick_does {k : V → Hp → R} (hq : quick ops o F = true) (h : opK E call inl cuts ops o nid F H k = some res) :
  ∃ v b,b.fresh = true ∧ H[nid]? = some .free ∧ k v (H.set nid b) = some res ∧ ∀ H2 : Hp,H2[nid]? = some .free → ∀ k2,opK E call inl cuts ops o nid F H2 k2 = k2 v (H2.set nid b):=by
 cases ho : o.op with
 | alloc t =>
  simp only [opK,ho] at h
  obtain ⟨h1,h⟩:=gB_some h
  obtain ⟨hfn,h⟩:=newB_some h
  exact ⟨_,_,rfl,hfn,h,fun H2 h2 k2 => by simp only [opK,ho,h1,gB,newB,h2]⟩
 | makeSlice t l c =>
  simp only [opK,ho] at h
  split at h
  ·rename_i e l' c' ht hl hc
   obtain ⟨a1,ha1,h⟩:=bindO_some h
   obtain ⟨a2,ha2,h⟩:=bindO_some h
   obtain ⟨h1,h⟩:=gB_some h
   obtain ⟨hfn,h⟩:=newB_some h
   exact ⟨_,_,rfl,hfn,h,fun H2 h2 k2 => by simp only [opK,ho,ht,hl,hc,ha1,ha2,bindO,h1,gB,newB,h2]⟩
  ·cases h
 | makeMap t r =>
  cases r with
  | some r => simp only [opK,ho] at h;cases h
  | none =>
   simp only [opK,ho] at h
   split at h
   ·rename_i kt e ht
    obtain ⟨hfn,h⟩:=newB_some h
    exact ⟨_,_,rfl,hfn,h,fun H2 h2 k2 => by simp only [opK,ho,ht,newB,h2]⟩
   ·cases h
 | buildSlice t len parts =>
  simp only [quick,ho,Bool.and_eq_true,Bool.not_eq_true'] at hq
  simp only [opK,ho] at h
  have hP : ∀ v ∈ (parts.toList.map fun p => evalV F p.2),allF v = true:=by
   intro v hv
   obtain ⟨p,hp,rfl⟩:=List.mem_map.1 hv
   exact List.all_eq_true.1 hq.2 p hp
  split at h
  ·rename_i e hts
   split at h
   ·rename_i r hr
    obtain ⟨h1,h⟩:=gB_some h
    simp only [Bool.and_eq_true] at h1
    simp only [hq.1] at h
    rw [foldl_allF H _ hP] at h
    obtain ⟨hfn,h⟩:=newB_some h
    refine ⟨_,_,rfl,hfn,h,fun H2 h2 k2 => ?_⟩
    rw [rowsLit_isF H H2 _ _ (fun p hp => by obtain ⟨q,hq',rfl⟩:=List.mem_map.1 hp;exact List.all_eq_true.1 hq.2 q hq')] at hr
    have h3 : ((parts.toList.map fun p => evalV F p.2).all (liveV H2)) = true:=List.all_eq_true.2 fun v hv => allF_live (hP v hv) H2
    simp only [opK,ho,hts,hr,h1.1.1,h1.2,h3,Bool.and_self,gB,hq.1]
    rw [foldl_allF H2 _ hP]
    simp only [newB,h2]
   ·cases h
  ·cases h
 | _ => simp only [quick,ho] at hq;cases hq
end
end Go.Proofs.YtpffkpaiihcffaaGreatDoor.VM
