/- Regions that draw: what an operation that turns the heap leaves as it is. -/
import Derived.Test.YtpffkpaiihcffaaGreatDoorDraw4
set_option linter.unusedVariables false
set_option linter.unusedSimpArgs false
set_option linter.unusedSectionVars false
namespace Go.Proofs.YtpffkpaiihcffaaGreatDoor.VM
open Go Go.RowKit
structure Unch (U : List Tok) (H H2 : Hp) : Prop where
 free : ∀ n : Nat,H2[n]? = some .free → H[n]? = some .free
 blk : ∀ (id : Nat) b,H[id]? = some b → UnchB U H2 id b
theorem UnchB.same {U : List Tok} {H2 : Hp} {id : Nat} {b : Blk} (h : H2[id]? = some b) : UnchB U H2 id b:=by
 cases b with
 | box cs => exact .inl ⟨cs,h,rfl,fun _ => .inr rfl⟩
 | own s r => exact .inr h
 | map ag es => exact .inr h
 | fz r => exact h
 | fzb r => exact h
 | _ => exact True.intro
theorem Unch.refl (U : List Tok) (H : Hp) : Unch U H H:=⟨fun _ h => h,fun id b h => .same h⟩
theorem Unch.trans {U : List Tok} {H1 H2 H3 : Hp} (h : Unch U H1 H2) (k : Unch U H2 H3) : Unch U H1 H3:=by
 refine ⟨fun n hn => h.free n (k.free n hn),fun id b hb => ?_⟩
 have h1:=h.blk id b hb
 cases b with
 | box cs =>
  rcases h1 with ⟨cs',h2,h3,h4⟩ | ⟨h2,xs,h3⟩
  ·rcases k.blk id _ h2 with ⟨cs'',k2,k3,k4⟩ | ⟨k2,xs,k3⟩
   ·refine .inl ⟨cs'',k2,k3.trans h3,fun i => ?_⟩
    rcases h4 i with h4 | h4
    ·exact .inl h4
    ·rcases k4 i with k4 | k4
     ·exact .inl k4
     ·exact .inr (k4.trans h4)
   ·exact .inr ⟨fun i hi => k2 i (by omega),xs,k3⟩
  ·exact .inr ⟨h2,xs,k.blk id _ h3⟩
 | own s r => exact h1.elim .inl fun h2 => k.blk id _ h2
 | map ag es => exact h1.elim .inl fun h2 => k.blk id _ h2
 | fz r => exact k.blk id _ h1
 | fzb r => exact k.blk id _ h1
 | _ => exact True.intro
theorem UnchW.refl (U : List Tok) (H : Hp) : UnchW U H H:=fun id b h => .same h
theorem Unch.w {U : List Tok} {H H2 : Hp} (h : Unch U H H2) : UnchW U H H2:=h.blk
theorem UnchW.trans {U : List Tok} {H1 H2 H3 : Hp} (h : UnchW U H1 H2) (k : UnchW U H2 H3) : UnchW U H1 H3:=by
 intro id b hb
 have h1:=h id b hb
 cases b with
 | box cs =>
  rcases h1 with ⟨cs',h2,h3,h4⟩ | ⟨h2,xs,h3⟩
  ·rcases k id _ h2 with ⟨cs'',k2,k3,k4⟩ | ⟨k2,xs,k3⟩
   ·refine .inl ⟨cs'',k2,k3.trans h3,fun i => ?_⟩
    rcases h4 i with h4 | h4
    ·exact .inl h4
    ·rcases k4 i with k4 | k4
     ·exact .inl k4
     ·exact .inr (k4.trans h4)
   ·exact .inr ⟨fun i hi => k2 i (by omega),xs,k3⟩
  ·exact .inr ⟨h2,xs,k id _ h3⟩
 | own s r => exact h1.elim .inl fun h2 => k id _ h2
 | map ag es => exact h1.elim .inl fun h2 => k id _ h2
 | fz r => exact k id _ h1
 | fzb r => exact k id _ h1
 | _ => exact True.intro
theorem UnchW.mono {U U' : List Tok} {H H2 : Hp} (hu : ∀ x ∈ U,x ∈ U') (h : UnchW U H H2) : UnchW U' H H2:=by
 intro id b hb
 have h1:=h id b hb
 cases b with
 | box cs =>
  rcases h1 with ⟨cs',h2,h3,h4⟩ | ⟨h2,xs,h3⟩
  ·exact .inl ⟨cs',h2,h3,fun k => (h4 k).imp_left (hu _)⟩
  ·exact .inr ⟨fun k hk => hu _ (h2 k hk),xs,h3⟩
 | own s r => exact h1.imp_left (hu _)
 | map ag es => exact h1.imp_left (hu _)
 | fz r => exact h1
 | fzb r => exact h1
 | _ => exact True.intro
theorem tokEq_eq {x y : Tok} : tokEq x y = true ↔ x = y:=by
 obtain ⟨a,b,c⟩:=x
 obtain ⟨d,e,f⟩:=y
 simp [tokEq,and_assoc]
theorem disj_spec {a b : List Tok} (h : disj a b = true) : ∀ x ∈ a,x ∉ b:=by
 intro x hx hb
 have:=List.all_eq_true.1 h x hx
 simp only [Bool.not_eq_true',List.any_eq_false] at this
 exact this x hb (tokEq_eq.2 rfl)
theorem UnchW.agree {U T : List Tok} {H H2 : Hp} (h : UnchW U H H2) (hd : disj U T = true) : Agree T H H2:=by
 intro id b hb
 have h1:=h id b hb
 have nd : ∀ x,x ∈ T → x ∉ U:=fun x hx hu => disj_spec hd x hu hx
 cases b with
 | box cs =>
  rcases h1 with ⟨cs',h2,h3,h4⟩ | ⟨h2,xs,h3⟩
  ·exact .inl ⟨cs',h2,h3,fun k hk => (h4 k).resolve_left (nd _ hk)⟩
  ·exact .inr ⟨fun k hk ht => nd _ ht (h2 k hk),xs,h3⟩
 | own s r => exact fun ht => h1.resolve_left (nd _ ht)
 | map ag es => exact fun ht => h1.resolve_left (nd _ ht)
 | fz r => exact h1
 | fzb r => exact h1
 | _ => exact True.intro
theorem Unch.agree {U T : List Tok} {H H2 : Hp} (h : Unch U H H2) (hd : disj U T = true) : Agree T H H2:=h.w.agree hd
section
variable {E : Env} {call : Nat → List FV → Option FV} {inl : Inl} {cuts : List Nat} {ops : Array Oper} {o : Oper} {nid : Nat} {F F2 : Fr} {H H2 : Hp} {res : FV} {U : List Tok}
theorem Unch.settle : Unch U H (settle H):=by
 have key : ∀ (n : Nat),(Go.Proofs.YtpffkpaiihcffaaGreatDoor.VM.settle H)[n]? = (H[n]?).map settleB:=fun n => by simp [Go.Proofs.YtpffkpaiihcffaaGreatDoor.VM.settle]
 refine ⟨fun n hn => ?_,fun id b hb => ?_⟩
 ·rw [key] at hn
  cases h : H[n]? with
  | none => rw [h] at hn;cases hn
  | some b => rw [h] at hn;cases b <;> first | rfl | simp [settleB] at hn
 ·cases b with
  | old r => exact True.intro
  | free => exact True.intro
  | dead => exact True.intro
  | _ => exact .same (by rw [key,hb];rfl)
theorem Unch.set_free {b : Blk} (h : H[nid]? = some .free) (hb : b ≠ .free) : Unch U H (H.set nid b):=by
 have hl:=(List.getElem?_eq_some_iff.1 h).1
 refine ⟨fun n hn => ?_,fun id c hc => ?_⟩
 ·rw [List.getElem?_set] at hn
  split at hn
  ·rename_i e;subst e;exact h
  ·exact hn
 ·rcases Nat.decEq nid id with e | e
  ·exact .same (by rw [List.getElem?_set_ne e];exact hc)
  ·subst e
   rw [h] at hc
   cases hc
   exact True.intro
theorem Unch.set_at {id : Nat} {b c : Blk} (h : H[id]? = some b) (hc : c ≠ .free) (hu : UnchB U (H.set id c) id b) : Unch U H (H.set id c):=by
 have hl:=(List.getElem?_eq_some_iff.1 h).1
 refine ⟨fun n hn => ?_,fun i d hd => ?_⟩
 ·rw [List.getElem?_set] at hn
  split at hn
  ·simp only [hl,if_true,Option.some.injEq] at hn;exact absurd hn hc
  ·exact hn
 ·rcases Nat.decEq id i with e | e
  ·exact .same (by rw [List.getElem?_set_ne e];exact hd)
  ·subst e
   rw [h] at hd
   cases hd
   exact hu
theorem get_set {id : Nat} {b c : Blk} (h : H[id]? = some b) : (H.set id c)[id]? = some c:=List.getElem?_set_self (List.getElem?_eq_some_iff.1 h).1
theorem Unch.mark {id : Nat} (h : ∀ t ∈ markTok H id,t ∈ U) : Unch U H (markOne H id):=by
 unfold markTok at h
 unfold markOne
 split
 ·rename_i s r hb
  simp only [hb] at h
  exact Unch.set_at hb (by simp) (.inl (h _ (by simp)))
 ·rename_i cs hb
  simp only [hb] at h
  split
  ·rename_i xs hx
   exact Unch.set_at hb (by simp) (.inr ⟨fun k hk => h _ (by simpa using cellToks_mem (id:=id) cs.length 0 k hk),xs,get_set hb⟩)
  ·exact .refl _ _
 ·exact .refl _ _
theorem markOne_ne {id i : Nat} (h : i ≠ id) : (markOne H i)[id]? = H[id]?:=by
 unfold markOne
 split
 ·exact List.getElem?_set_ne h
 ·split
  ·exact List.getElem?_set_ne h
  ·rfl
 ·rfl
theorem markTok_mark {id i : Nat} : ∀ t ∈ markTok (markOne H i) id,t ∈ markTok H id:=by
 intro t ht
 rcases Nat.decEq i id with e | e
 ·unfold markTok at ht ⊢
  rw [markOne_ne e] at ht
  exact ht
 ·subst e
  unfold markOne at ht
  split at ht
  ·rename_i s r hb
   simp only [markTok,get_set hb] at ht
   cases ht
  ·rename_i cs hb
   split at ht
   ·simp only [markTok,get_set hb] at ht
    cases ht
   ·exact ht
  ·exact ht
theorem Unch.markL : ∀ (ids : List Nat) {H : Hp},(∀ id ∈ ids,∀ t ∈ markTok H id,t ∈ U) → Unch U H (ids.foldl markOne H)
 | [],H,h => .refl _ _
 | i :: ids,H,h => (Unch.mark (h i (by simp))).trans (Unch.markL ids fun id hid t ht => h id (by simp [hid]) t (markTok_mark t ht))
theorem Unch.marks {v : V} (h : ∀ t ∈ markToks H v,t ∈ U) : Unch U H (marks H v) :=
 Unch.markL _ fun id hid t ht => h t (List.mem_flatMap.2 ⟨id,hid,ht⟩)
theorem Unch.marksAll {vs : List V} (h : ∀ t ∈ argToks H vs,t ∈ U) : Unch U H (vs.foldl Go.Proofs.YtpffkpaiihcffaaGreatDoor.VM.marks H):=by
 rw [marksAll_eq]
 refine Unch.markL _ fun id hid t ht => ?_
 obtain ⟨v,hv,hi⟩:=List.mem_flatMap.1 hid
 exact h t (List.mem_flatMap.2 ⟨v,hv,List.mem_flatMap.2 ⟨id,hi,ht⟩⟩)
theorem listSets_out {α : Type} : ∀ (vs l : List α) (o k : Nat),(k < o ∨ o + vs.length ≤ k) → (listSets l o vs)[k]? = l[k]?
 | [],l,o,k,h => rfl
 | v :: vs,l,o,k,h => by
  simp only [listSets,List.length_cons] at h ⊢
  rw [listSets_out vs _ (o + 1) k (by omega),List.getElem?_set_ne (by omega)]
theorem cellToks_in {id : Nat} {n o k : Nat} (h1 : o ≤ k) (h2 : k < o + n) : (0,id,k) ∈ cellToks id o n:=by
 have:=cellToks_mem (id:=id) n o (k - o) (by omega)
 rwa [show o + (k - o) = k by omega] at this
theorem backCells_unch {js : List (Nat × Nat)} {x : FV} : ∀ (n j nid : Nat) (H : Hp) (acc : List V) (k : List V → Nat → Hp → R),backCells js x j n nid H acc k = some res → ∃ vs m H',k vs m H' = some res ∧ ∀ U,Unch U H H'
 | 0,j,nid,H,acc,k,h => ⟨_,_,_,h,fun U => .refl _ _⟩
 | n + 1,j,nid,H,acc,k,h => by
  simp only [backCells] at h
  split at h
  ·obtain ⟨r,_,h⟩:=bindO_some h
   obtain ⟨hf,h⟩:=newB_some h
   obtain ⟨vs,m,H',h1,h2⟩:=backCells_unch n _ _ _ _ _ h
   exact ⟨vs,m,H',h1,fun U => (Unch.set_free hf (by simp)).trans (h2 U)⟩
  ·exact backCells_unch n _ _ _ _ _ h
theorem splitAs_some {ag : Bool} {n : Nat} {x : FV} {k : V → R} (h : splitAs ag n x k = some res) : ∃ v,k v = some res ∧ ∀ k',splitAs ag n x k' = k' v:=by
 unfold splitAs at h ⊢
 cases ag with
 | true =>
  unfold splitAgg at h ⊢
  obtain ⟨h2,h⟩:=gB_some h
  exact ⟨_,h,fun k' => by simp only [h2,gB]⟩
 | false => exact ⟨_,h,fun k' => rfl⟩
theorem backK_unch {own : List (Nat × Nat × Nat)} : ∀ (ts : List Nat) (i nid : Nat) (xs : List FV) (H : Hp) (acc : List V) (k : List V → Hp → R),backK E own i nid ts xs H acc k = some res → ∃ vs H',k vs H' = some res ∧ ∀ U,Unch U H H'
 | [],i,nid,[],H,acc,k,h => ⟨_,_,h,fun U => .refl _ _⟩
 | [],i,nid,_ :: _,H,acc,k,h => by simp [backK] at h;exact ⟨_,_,h,fun U => .refl _ _⟩
 | t :: ts,i,nid,[],H,acc,k,h => by simp [backK] at h
 | t :: ts,i,nid,x :: xs,H,acc,k,h => by
  simp only [backK] at h
  split at h
  ·obtain ⟨v,h,_⟩:=splitAs_some h
   exact backK_unch ts _ _ _ _ _ _ h
  ·split at h
   ·obtain ⟨_,h⟩:=gB_some h
    obtain ⟨cs,m,H1,h,h1⟩:=backCells_unch _ _ _ _ _ _ h
    obtain ⟨vs,H',h2,h3⟩:=backK_unch ts _ _ _ _ _ _ h
    exact ⟨vs,H',h2,fun U => (h1 U).trans (h3 U)⟩
   ·obtain ⟨r,_,h⟩:=bindO_some h
    obtain ⟨hf,h⟩:=newB_some h
    obtain ⟨vs,H',h2,h3⟩:=backK_unch ts _ _ _ _ _ _ h
    exact ⟨vs,H',h2,fun U => (Unch.set_free hf (by simp)).trans (h3 U)⟩
theorem resultsOf_some {n : Nat} {x : FV} {k : List FV → R} (h : resultsOf n x k = some res) : ∃ xs,k xs = some res ∧ ∀ k',resultsOf n x k' = k' xs:=by
 unfold resultsOf at h ⊢
 split at h
 ·exact ⟨_,h,fun k' => rfl⟩
 ·obtain ⟨hb,h⟩:=gB_some h
  exact ⟨_,h,fun k' => by simp only [hb,gB]⟩
theorem srcRows_some {b : Bool} {v : V} {k : List (List FV) → R} (h : srcRows H b v k = some res) : ∃ ys,k ys = some res ∧ ∀ k',srcRows H b v k' = k' ys:=by
 unfold srcRows at h ⊢
 split at h
 ·split at h
  ·obtain ⟨ys,hy,h⟩:=bindO_some h
   exact ⟨ys,h,fun k' => by simp only [hy,bindO]⟩
  ·cases h
 ·split at h
  ·obtain ⟨ys,hy,h⟩:=bindO_some h
   exact ⟨ys,h,fun k' => by simp only [hy,bindO]⟩
  ·split at h
   ·rename_i r hr;exact ⟨r,h,fun k' => by simp only [hr]⟩
   ·cases h
  ·cases h
theorem append_unch {e : Nat} {b : Bool} {s x : V} {k : V → Hp → R} (h : appendK E nid H e b s x k = some res) (hu : ∀ id,s = .ref id → (1,id,0) ∈ U) : ∃ v H',k v H' = some res ∧ Unch U H H':=by
 unfold appendK at h
 obtain ⟨_,h⟩:=gB_some h
 obtain ⟨ys,h,_⟩:=srcRows_some h
 obtain ⟨_,h⟩:=gB_some h
 cases s with
 | f y =>
  obtain ⟨_,h⟩:=onNil_some h
  obtain ⟨_,h⟩:=gB_some h
  obtain ⟨hf,h⟩:=newB_some h
  exact ⟨_,_,h,Unch.set_free hf (by simp)⟩
 | ref id =>
  simp only at h
  split at h
  ·rename_i sz r hb
   obtain ⟨_,h⟩:=gB_some h
   obtain ⟨_,h⟩:=gB_some h
   obtain ⟨hf,h⟩:=newB_some h
   have hs:=settle_get hb (fun r => by simp)
   exact ⟨_,_,h,Unch.settle.trans ((Unch.set_at hs (by simp) (.inl (hu id rfl))).trans (Unch.set_free hf (by simp)))⟩
  ·cases h
 | _ => cases h
theorem appendZ_unch {e : Nat} {s x : V} {k : V → Hp → R} (h : appendZ E nid H e s x k = some res) : ∃ v H',k v H' = some res ∧ Unch U H H':=by
 unfold appendZ at h
 split at h
 ·split at h
  ·obtain ⟨_,h⟩:=onNil_some h
   obtain ⟨_,_,h⟩:=bindO_some h
   obtain ⟨_,h⟩:=gB_some h
   obtain ⟨hf,h⟩:=newB_some h
   exact ⟨_,_,h,Unch.set_free hf (by simp)⟩
  ·cases h
 ·cases h
theorem nodupB_nd : ∀ {l : List Nat},nodupB l = true → l.Nodup
 | [],_ => List.nodup_nil
 | x :: l,h => by
  simp only [nodupB,Bool.and_eq_true,Bool.not_eq_true'] at h
  exact List.nodup_cons.2 ⟨fun hm => by have:=h.1;simp [hm] at this,nodupB_nd h.2⟩
theorem moveOk_own {args : List V} {ls : List (Nat × Nat × Bool)} (h : moveOk H ls args = true) : ∀ id ∈ moveIds ls args,∃ s r,H[id]? = some (.own s r):=by
 intro id hid
 obtain ⟨q,hq,he⟩:=List.mem_filterMap.1 hid
 have h1:=List.all_eq_true.1 h q hq
 split at he
 ·rename_i id' hv
  cases he
  rw [hv] at h1
  simp only at h1
  split at h1
  ·rename_i s r hb;exact ⟨s,r,hb⟩
  ·cases h1
 ·cases he
theorem moveIds_ref {args : List V} {q : Nat × Nat × Bool} {ls : List (Nat × Nat × Bool)} {id : Nat} (h : args[q.1]? = some (.ref id)) : moveIds (q :: ls) args = id :: moveIds ls args:=by simp [moveIds,h]
theorem moveIds_f {args : List V} {q : Nat × Nat × Bool} {ls : List (Nat × Nat × Bool)} {x : FV} (h : args[q.1]? = some (.f x)) : moveIds (q :: ls) args = moveIds ls args:=by simp [moveIds,h]
theorem putBackK_unch {args : List V} {k : Hp → R} : ∀ (ls : List (Nat × Nat × Bool)) (zs : List FV) (H : Hp),(∀ id ∈ moveIds ls args,(1,id,0) ∈ U ∧ ∃ s r,H[id]? = some (.own s r)) → (moveIds ls args).Nodup → putBackK ls args zs H k = some res → ∃ H',k H' = some res ∧ Unch U H H'
 | [],zs,H,_,_,h => ⟨_,h,.refl _ _⟩
 | q :: ls,zs,H,hu,hn,h => by
  have step : ∀ (id : Nat) (c : Blk),c ≠ .free → args[q.1]? = some (.ref id) → ∀ zs,putBackK ls args zs (H.set id c) k = some res → ∃ H',k H' = some res ∧ Unch U H H':=by
   intro id c hc he zs h
   rw [moveIds_ref he] at hu hn
   obtain ⟨h1,s,r,hb⟩:=hu id (by simp)
   have hn':=List.nodup_cons.1 hn
   obtain ⟨H',h2,h3⟩:=putBackK_unch ls zs (H.set id c) (fun i hi => by
    obtain ⟨a1,s',r',a2⟩:=hu i (by simp [hi])
    exact ⟨a1,s',r',by
     have hne : id ≠ i:=fun e => hn'.1 (by rw [e];exact hi)
     rw [List.getElem?_set_ne hne];exact a2⟩) hn'.2 h
   exact ⟨H',h2,(Unch.set_at hb hc (.inl h1)).trans h3⟩
  simp only [putBackK] at h
  split at h
  ·rename_i id he
   split at h
   ·split at h
    ·obtain ⟨r,_,h⟩:=bindO_some h
     exact step id _ (by simp) he _ h
    ·cases h
   ·exact step id _ (by simp) he _ h
  ·rename_i x he
   rw [moveIds_f he] at hu hn
   split at h
   ·exact putBackK_unch ls _ H hu hn h
   ·exact putBackK_unch ls _ H hu hn h
  ·cases h
theorem heavy_unch {k : V → Hp → R} (ht : touch E cuts o F H = some U) (h : opK E call inl cuts ops o nid F H k = some res) : ∃ v H',k v H' = some res ∧ Unch U H H':=by
 cases ho : o.op with
 | store t p x =>
  simp only [touch,ho] at ht
  simp only [opK,ho,storeK] at h
  split at h
  ·rename_i vs hvs
   obtain ⟨h0,h⟩:=gB_some h
   split at h
   ·rename_i id i o' hp
    simp only [hp,hvs] at ht
    split at h
    ·rename_i cs hb
     simp only [hb,Option.some.injEq] at ht
     obtain ⟨h1,h⟩:=gB_some h
     simp only [Bool.and_eq_true,beq_iff_eq] at h0
     have hs:=settle_get hb (fun r => by simp)
     refine ⟨_,_,h,Unch.settle.trans (Unch.set_at hs (by simp) (.inl ⟨_,get_set hs,listSets_length _ _ _,fun q => ?_⟩))⟩
     by_cases hq : o' ≤ q ∧ q < o' + vs.length
     ·exact .inl (by rw [← ht];exact cellToks_in hq.1 (by omega))
     ·exact .inr (listSets_out _ _ _ _ (by omega))
    ·rename_i s r hb
     simp only [hb,Option.some.injEq] at ht
     obtain ⟨_,h⟩:=gB_some h
     obtain ⟨r',_,h⟩:=bindO_some h
     split at h
     ·rename_i s' r'' hb2
      refine ⟨_,_,h,?_⟩
      refine (Unch.marks fun t h1 => by rw [← ht];simp [h1]).trans (Unch.settle.trans (Unch.set_at hb2 (by simp) (.inl (by rw [← ht];simp))))
     ·cases h
    ·cases h
   ·cases h
  ·cases h
 | mapUpdate t m key x =>
  simp only [touch,ho] at ht
  simp only [opK,ho] at h
  split at h
  ·rename_i kt e id _ hm
   simp only [hm,Option.some.injEq] at ht
   split at h
   ·rename_i ag es hb
    obtain ⟨_,h⟩:=gB_some h
    obtain ⟨_,h⟩:=gB_some h
    obtain ⟨es',_,h⟩:=bindO_some h
    split at h
    ·rename_i ag' es'' hb2
     exact ⟨_,_,h,(Unch.marks fun t h1 => by rw [← ht];simp [h1]).trans (Unch.settle.trans (Unch.set_at hb2 (by simp) (.inl (by rw [← ht];simp))))⟩
    ·cases h
   ·cases h
  ·cases h
 | insert t m key x =>
  simp only [touch,ho] at ht
  simp only [opK,ho] at h
  split at h
  ·rename_i kt e id _ hm
   simp only [hm,Option.some.injEq] at ht
   split at h
   ·rename_i ag es hb
    obtain ⟨_,h⟩:=gB_some h
    obtain ⟨_,h⟩:=gB_some h
    obtain ⟨es',_,h⟩:=bindO_some h
    split at h
    ·rename_i ag' es'' hb2
     exact ⟨_,_,h,(Unch.marks fun t h1 => by rw [← ht];simp [h1]).trans (Unch.settle.trans (Unch.set_at hb2 (by simp) (.inl (by rw [← ht];simp))))⟩
    ·cases h
   ·cases h
  ·cases h
 | slice t x lo hi mx =>
  simp only [touch,ho] at ht
  simp only [opK,ho] at h
  split at h
  ·rename_i lo' hi' mx' hlo hhi hmx
   split at h
   ·split at h
    ·obtain ⟨_,_,h⟩:=bindO_some h
     exact ⟨_,_,h,.refl _ _⟩
    ·cases h
   ·have hmn : mx = none:=by
     cases mx with
     | none => rfl
     | some y => simp only [Option.map_some] at hmx;cases he : evalV F y <;> simp [optF,he] at hmx
    subst hmn
    split at h
    ·rename_i hc
     simp only [hc] at ht
     split at h
     ·rename_i id hx
      simp only [hx,Option.some.injEq] at ht
      split at h
      ·rename_i sz r hb
       obtain ⟨_,h⟩:=gB_some h
       obtain ⟨_,_,h⟩:=bindO_some h
       obtain ⟨hf,h⟩:=newB_some h
       have hs:=settle_get hb (fun r => by simp)
       exact ⟨_,_,h,Unch.settle.trans ((Unch.set_at hs (by simp) (.inl (by rw [← ht];simp))).trans (Unch.set_free hf (by simp)))⟩
      ·cases h
     ·cases h
    ·rename_i hc
     simp only [hc,Option.some.injEq] at ht
     obtain ⟨_,_,h⟩:=bindO_some h
     exact ⟨_,_,h,Unch.marks fun t h1 => by rw [← ht];exact h1⟩
   ·have hms : ∃ y,mx = some y:=by
     cases mx with
     | none => simp [optF] at hmx
     | some y => exact ⟨y,rfl⟩
    obtain ⟨y,rfl⟩:=hms
    have ht' : markToks H (evalV F x) = U:=by
     revert ht
     cases isCut cuts o.dst <;> exact fun e => Option.some.inj e
    split at h
    ·obtain ⟨_,_,h⟩:=bindO_some h
     obtain ⟨_,_,h⟩:=bindO_some h
     obtain ⟨_,h⟩:=gB_some h
     obtain ⟨_,hfc,h⟩:=bindO_some h
     exact ⟨_,_,h,Unch.marks fun t h1 => by rw [← ht'];exact h1⟩
    ·cases h
   ·cases h
  ·cases h
 | buildSlice t n parts =>
  simp only [touch,ho,Option.some.injEq] at ht
  simp only [opK,ho] at h
  split at h
  ·split at h
   ·obtain ⟨_,h⟩:=gB_some h
    split at h
    ·exact ⟨_,_,h,Unch.marksAll fun t h1 => by rw [← ht];exact h1⟩
    ·obtain ⟨hf,h⟩:=newB_some h
     exact ⟨_,_,h,(Unch.marksAll fun t h1 => by rw [← ht];exact h1).trans (Unch.set_free hf (by simp))⟩
   ·cases h
  ·cases h
 | alloc t =>
  simp only [opK,ho] at h
  obtain ⟨_,h⟩:=gB_some h
  obtain ⟨hf,h⟩:=newB_some h
  exact ⟨_,_,h,Unch.set_free hf (by simp)⟩
 | box t x =>
  simp only [opK,ho] at h
  split at h
  ·obtain ⟨_,h⟩:=gB_some h
   obtain ⟨hf,h⟩:=newB_some h
   exact ⟨_,_,h,Unch.set_free hf (by simp)⟩
  ·cases h
 | makeSlice t l c =>
  simp only [opK,ho] at h
  split at h
  ·obtain ⟨_,_,h⟩:=bindO_some h
   obtain ⟨_,_,h⟩:=bindO_some h
   obtain ⟨_,h⟩:=gB_some h
   obtain ⟨hf,h⟩:=newB_some h
   exact ⟨_,_,h,Unch.set_free hf (by simp)⟩
  ·cases h
 | makeMap t r =>
  cases r with
  | some r => simp only [opK,ho] at h;cases h
  | none =>
   simp only [opK,ho] at h
   split at h
   ·obtain ⟨hf,h⟩:=newB_some h
    exact ⟨_,_,h,Unch.set_free hf (by simp)⟩
   ·cases h
 | call c =>
  simp only [touch,ho] at ht
  simp only [opK,ho] at h
  split at ht
  ·rename_i hc
   simp only [hc] at h
   generalize c.args.toList.map (evalV F) = args at h ht
   generalize c.argTypes = ats at h
   rcases args with _ | ⟨s,_ | ⟨x,_ | ⟨y,rest⟩⟩⟩
   ·simp only [builtinK] at h;cases h
   ·simp only [builtinK] at h;cases h
   ·have hu : ∀ id,s = .ref id → (1,id,0) ∈ U:=by
     intro id e
     subst e
     simp only [Option.some.injEq] at ht
     rw [← ht];simp
    simp only [builtinK] at h
    split at h
    ·split at h
     ·exact append_unch h hu
     ·exact append_unch h hu
     ·exact appendZ_unch h
     ·cases h
    ·cases h
   ·simp only [builtinK] at h;cases h
  ·rename_i g hc
   simp only [hc,evalV,List.append_nil,callK] at h
   split at h
   ·rename_i own lend fn hm hg
    simp only [hm,Option.some.injEq] at ht
    obtain ⟨_,h⟩:=gB_some h
    split at h
    ·split at h
     ·obtain ⟨_,h⟩:=gB_some h
      obtain ⟨_,_,h⟩:=bindO_some h
      obtain ⟨_,h⟩:=gB_some h
      split at h
      ·exact ⟨_,_,h,.refl _ _⟩
      ·cases h
     ·cases h
    ·obtain ⟨_,_,h⟩:=bindO_some h
     obtain ⟨xs,h,_⟩:=resultsOf_some h
     obtain ⟨vs,H',h,h1⟩:=backK_unch _ _ _ _ _ _ _ h
     exact ⟨_,_,h,(Unch.marksAll fun t h1 => by rw [← ht];exact h1).trans (h1 U)⟩
   ·rename_i ls own fn hm hg
    simp only [hm,Option.some.injEq] at ht
    unfold moveK at h
    obtain ⟨hcond,h⟩:=gB_some h
    simp only [Bool.and_eq_true] at hcond
    obtain ⟨⟨⟨⟨_,hmo⟩,_⟩,hnd⟩,hdis⟩:=hcond
    obtain ⟨x,_,h⟩:=bindO_some h
    obtain ⟨xs,h,_⟩:=resultsOf_some h
    generalize c.args.toList.map (evalV F) = vs at h ht hmo hnd hdis
    obtain ⟨H2,h,h2⟩:=putBackK_unch (U:=U) ls _ _ (fun id hid => by
     refine ⟨by rw [← ht];exact List.mem_append_left _ (List.mem_map.2 ⟨id,hid,rfl⟩),?_⟩
     obtain ⟨s,r,hb⟩:=moveOk_own hmo id hid
     refine ⟨s,r,?_⟩
     rw [marksAll_eq,marks_keep id _ _ fun hmem => ?_]
     ·exact hb
     ·have:=List.all_eq_true.1 hdis id hid
      simp [List.contains_iff_mem,hmem] at this) (nodupB_nd hnd) h
    obtain ⟨vs',H',h,h1⟩:=backK_unch _ _ _ _ _ _ _ h
    exact ⟨_,_,h,Unch.settle.trans ((Unch.marksAll fun t h1 => by rw [← ht];exact List.mem_append_right _ h1).trans (h2.trans (h1 U)))⟩
   ·rename_i hm _
    simp only [hm] at ht
    cases ht
   ·cases h
  ·rename_i fo hno hc
   simp only [hc] at h
   split at ht
   ·rename_i x hfo
    simp only [Option.some.injEq] at ht
    simp only [hfo] at h
    obtain ⟨_,h⟩:=gB_some h
    obtain ⟨y,_,h⟩:=bindO_some h
    obtain ⟨v,h,_⟩:=splitAs_some h
    exact ⟨_,_,h,Unch.marksAll fun t h1 => by rw [← ht];exact h1⟩
   ·cases ht
  ·cases ht
 | _ => simp only [touch,ho] at ht;cases ht
end
end Go.Proofs.YtpffkpaiihcffaaGreatDoor.VM
