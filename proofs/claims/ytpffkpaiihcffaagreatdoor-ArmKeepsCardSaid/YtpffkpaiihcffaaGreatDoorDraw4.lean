/- Regions that draw: an operation that only looks sees the same where what it looks at is the same. -/
import Derived.Test.YtpffkpaiihcffaaGreatDoorDraw3
set_option linter.unusedVariables false
set_option linter.unusedSimpArgs false
set_option linter.unusedSectionVars false
namespace Go.Proofs.YtpffkpaiihcffaaGreatDoor.VM
open Go Go.RowKit
def Agree (T : List Tok) (H H2 : Hp) : Prop:=∀ (id : Nat) b,H[id]? = some b → match b with
 | .own _ _ => (1,id,0) ∈ T → H2[id]? = some b
 | .fz _ => H2[id]? = some b
 | .fzb _ => H2[id]? = some b
 | .box cs => (∃ cs',H2[id]? = some (.box cs') ∧ cs'.length = cs.length ∧ ∀ k,(0,id,k) ∈ T → cs'[k]? = cs[k]?) ∨ ((∀ k,k < cs.length → (0,id,k) ∉ T) ∧ ∃ xs,H2[id]? = some (.fzb xs))
 | .map _ _ => (2,id,0) ∈ T → H2[id]? = some b
 | _ => True
theorem Agree.refl (T : List Tok) (H : Hp) : Agree T H H:=by
 intro id b h
 cases b with
 | box cs => exact .inl ⟨cs,h,rfl,fun _ _ => rfl⟩
 | own s r => exact fun _ => h
 | map ag es => exact fun _ => h
 | fz r => exact h
 | fzb r => exact h
 | _ => exact True.intro
theorem Agree.trans {T : List Tok} {H1 H2 H3 : Hp} (h : Agree T H1 H2) (k : Agree T H2 H3) : Agree T H1 H3:=by
 intro id b hb
 have h1:=h id b hb
 cases b with
 | box cs =>
  rcases h1 with ⟨cs',h2,h3,h4⟩ | ⟨h2,xs,h3⟩
  ·rcases k id _ h2 with ⟨cs'',k2,k3,k4⟩ | ⟨k2,xs,k3⟩
   ·exact .inl ⟨cs'',k2,k3.trans h3,fun i hi => (k4 i hi).trans (h4 i hi)⟩
   ·exact .inr ⟨fun i hi => k2 i (by omega),xs,k3⟩
  ·exact .inr ⟨h2,xs,k id _ h3⟩
 | own s r => exact fun ht => k id _ (h1 ht) ht
 | map ag es => exact fun ht => k id _ (h1 ht) ht
 | fz r => exact k id _ h1
 | fzb r => exact k id _ h1
 | _ => exact True.intro
theorem cellToks_mem {id : Nat} : ∀ (n o k : Nat),k < n → (0,id,o + k) ∈ cellToks id o n
 | 0,o,k,h => by omega
 | n + 1,o,0,h => by simp [cellToks]
 | n + 1,o,k + 1,h => by
  simp only [cellToks,List.mem_cons]
  refine .inr ?_
  have:=cellToks_mem (id:=id) n (o + 1) k (by omega)
  rwa [show o + 1 + k = o + (k + 1) by omega] at this
section
variable {E : Env} {call : Nat → List FV → Option FV} {inl : Inl} {cuts : List Nat} {ops : Array Oper} {o : Oper} {nid : Nat} {F F2 : Fr} {H H2 : Hp} {res : FV} {T : List Tok}
theorem Once.one {f : (V → Hp → R) → R} (h : Once f) {k : V → Hp → R} (e : f k = some res) : ∃ a b,k a b = some res ∧ ∀ k',f k' = k' a b:=h k res e
theorem ldCells_same {p : V} {m : Nat} (h : ∀ off,off < m → ∀ k,ldCell H2 p off k = ldCell H p off k) : ∀ (n off : Nat) (acc : List V) (k : List V → R),off + n ≤ m → ldCells H2 p n off acc k = ldCells H p n off acc k
 | 0,off,acc,k,hl => rfl
 | n + 1,off,acc,k,hl => by
  simp only [ldCells]
  rw [h off (by omega)]
  congr 1
  funext c
  exact ldCells_same h n (off + 1) (c :: acc) k (by omega)
theorem loadK_same {t : Nat} {p : V} (h : ∀ off,off < (E.ty t).size - 1 + 1 → ∀ k,ldCell H2 p off k = ldCell H p off k) (k : V → R) : loadK E H2 t p k = loadK E H t p k:=by
 unfold loadK
 cases (E.ty t).isAgg with
 | true =>
  simp only
  rw [ldCells_same h _ _ _ _ (by omega)]
 | false => simp only;rw [h 0 (by omega)]
theorem loadK_first {t id i off : Nat} {k : V → R} (h : loadK E H t (.ptr id i off) k = some res) : ∃ k',ldCell H (.ptr id i off) 0 k' = some res:=by
 unfold loadK at h
 obtain ⟨_,h⟩:=gB_some h
 split at h
 ·obtain ⟨h1,h⟩:=gB_some h
  have:=Nat.le_of_ble_eq_true h1
  obtain ⟨n,hn⟩ : ∃ n,(E.ty t).size = n + 1:=⟨(E.ty t).size - 1,by omega⟩
  rw [hn] at h
  exact ⟨_,h⟩
 ·exact ⟨_,h⟩
theorem load_light {t : Nat} {p : V} {k : V → R} (hr : readsP H p ((E.ty t).size - 1 + 1) = some T) (h : loadK E H t p k = some res) (ha : Agree T H H2) :
  readsP H2 p ((E.ty t).size - 1 + 1) = some T ∧ ∀ k2,loadK E H2 t p k2 = loadK E H t p k2:=by
 cases p with
 | f x => exact ⟨hr,loadK_same fun off _ k => rfl⟩
 | ptr id i off =>
  obtain ⟨k',hf⟩:=loadK_first h
  unfold readsP at hr
  simp only at hr
  split at hr
  ·rename_i cs hb
   split at hr
   ·simp only [Option.some.injEq] at hr
    unfold ldCell at hf
    simp only [hb,Nat.add_zero] at hf
    split at hf
    ·rename_i v hv
     have hlt : off < cs.length:=(List.getElem?_eq_some_iff.1 hv).1
     have hm : ∀ q,q < (E.ty t).size - 1 + 1 → (0,id,off + q) ∈ T:=fun q hq => by rw [← hr];exact cellToks_mem _ _ _ hq
     rcases ha id _ hb with ⟨cs',h1,h2,h3⟩ | ⟨h1,_⟩
     ·refine ⟨by simp [readsP,h1,hr],loadK_same fun q hq k => ?_⟩
      unfold ldCell
      simp only [hb,h1,h3 _ (hm q hq)]
     ·exact absurd (by simpa using hm 0 (by omega)) (h1 off hlt)
    ·cases hf
   ·cases hr
  ·rename_i xs hb
   simp only [Option.some.injEq] at hr
   have h1:=ha id _ hb
   exact ⟨by simp [readsP,h1,hr],loadK_same fun q hq k => by unfold ldCell;simp only [hb,h1]⟩
  ·rename_i s r hb
   simp only [Option.some.injEq] at hr
   have h1:=ha id _ hb (by rw [← hr];simp)
   exact ⟨by simp [readsP,h1,hr],loadK_same fun q hq k => by unfold ldCell;simp only [hb,h1]⟩
  ·rename_i r hb
   simp only [Option.some.injEq] at hr
   have h1:=ha id _ hb
   exact ⟨by simp [readsP,h1,hr],loadK_same fun q hq k => by unfold ldCell;simp only [hb,h1]⟩
  ·cases hr
 | _ => simp [readsP] at hr
theorem load_pure {t : Nat} {p : V} {k : V → R} (h : loadK E H t p k = some res) : ∃ v,k v = some res ∧ ∀ k',loadK E H t p k' = k' v:=by
 obtain ⟨a,b,h1,h2⟩:=Once.loadK (E:=E) (H:=H) (t:=t) (p:=p) (β:=Unit) (f:=fun v (k : V → Unit → R) => k v ()) (fun v => Once.pure v ()) (fun v _ => k v) res h
 exact ⟨a,h1,fun k' => h2 fun v _ => k' v⟩
theorem minmax_pure (b : Bool) (rest : List V) (x : FV) {k : V → R} (h : minmaxK b x rest k = some res) : ∃ v,k v = some res ∧ ∀ k',minmaxK b x rest k' = k' v:=by
 obtain ⟨a,_,h1,h2⟩:=Once.minmaxK (b:=b) (β:=Unit) (f:=fun v (k : V → Unit → R) => k v ()) (fun v => Once.pure v ()) rest x (fun v _ => k v) res h
 exact ⟨a,h1,fun k' => h2 fun v _ => k' v⟩
theorem readsR_agree {id : Nat} (hr : readsR H id = some T) (ha : Agree T H H2) : H2[id]? = H[id]? ∧ readsR H2 id = some T:=by
 unfold readsR at hr
 split at hr
 ·rename_i s r hb
  simp only [Option.some.injEq] at hr
  have h1:=ha id _ hb (by rw [← hr];simp)
  exact ⟨h1.trans hb.symm,by simp [readsR,h1,hr]⟩
 ·rename_i r hb
  simp only [Option.some.injEq] at hr
  have h1:=ha id _ hb
  exact ⟨h1.trans hb.symm,by simp [readsR,h1,hr]⟩
 ·cases hr
theorem readsA_agree {v : V} (hr : readsA H v = some T) (ha : Agree T H H2) : readsA H2 v = some T ∧ ∀ id i off,v = .ptr id i off → there H id = true ∧ there H2 id = true:=by
 cases v with
 | f x => exact ⟨hr,fun id i off e => by cases e⟩
 | ptr id i off =>
  unfold readsA at hr
  simp only at hr
  split at hr
  ·rename_i cs hb
   simp only [Option.some.injEq] at hr
   rcases ha id _ hb with ⟨cs',h1,h2,h3⟩ | ⟨_,xs,h1⟩
   ·exact ⟨by simp [readsA,h1,hr],fun _ _ _ e => by cases e;simp [there,hb,h1]⟩
   ·exact ⟨by simp [readsA,h1,hr],fun _ _ _ e => by cases e;simp [there,hb,h1]⟩
  ·rename_i xs hb
   simp only [Option.some.injEq] at hr
   have h1:=ha id _ hb
   exact ⟨by simp [readsA,h1,hr],fun _ _ _ e => by cases e;simp [there,hb,h1]⟩
  ·rename_i s r hb
   simp only [Option.some.injEq] at hr
   have h1:=ha id _ hb (by rw [← hr];simp)
   exact ⟨by simp [readsA,h1,hr],fun _ _ _ e => by cases e;simp [there,hb,h1]⟩
  ·rename_i r hb
   simp only [Option.some.injEq] at hr
   have h1:=ha id _ hb
   exact ⟨by simp [readsA,h1,hr],fun _ _ _ e => by cases e;simp [there,hb,h1]⟩
  ·cases hr
 | _ => simp [readsA] at hr
theorem idsF (n : Nat) (x : FV) : idsV n (.f x) = []:=by cases n <;> rfl
theorem isF_eq {v : V} (h : isF v = true) : ∃ x,v = .f x:=by cases v with | f x => exact ⟨x,rfl⟩ | _ => cases h
theorem frzC_isF {cs : List V} (h : cs.all isF = true) (H H2 : Hp) : cs.map (frzC H) = cs.map (frzC H2) :=
 List.map_congr_left fun v hv => by obtain ⟨x,rfl⟩:=isF_eq (List.all_eq_true.1 h v hv);rfl
theorem allF_frz {v : V} (h : allF v = true) (H H2 : Hp) : frz H v = frz H2 v:=by
 cases v with
 | f x => rfl
 | agg cs =>
  simp only [allF] at h
  have : cs.map (frzV 3 H) = cs.map (frzV 3 H2):=frzC_isF h H H2
  show (match cs.all isOne with | true => FV.agg (cs.map (frzV 3 H)) | false => FV.undef) = match cs.all isOne with | true => FV.agg (cs.map (frzV 3 H2)) | false => FV.undef
  rw [this]
 | _ => cases h
theorem allF_ids {v : V} (h : allF v = true) : idsV 4 v = []:=by
 cases v with
 | f x => rfl
 | agg cs =>
  simp only [allF] at h
  simp only [idsV,List.flatMap_eq_nil_iff]
  intro v hv
  obtain ⟨x,rfl⟩:=isF_eq (List.all_eq_true.1 h v hv)
  exact idsF 3 x
 | _ => cases h
theorem allF_marks {v : V} (h : allF v = true) (H : Hp) : marks H v = H:=by simp [marks,allF_ids h]
theorem allF_live {v : V} (h : allF v = true) (H : Hp) : liveV H v = true:=by simp [liveV,allF_ids h]
theorem rowsLit_isF {e : Nat} (H H2 : Hp) : ∀ (l : List (Nat × V)) (i : Nat),(∀ p ∈ l,allF p.2 = true) → rowsLit E H e i l = rowsLit E H2 e i l
 | [],i,h => rfl
 | (j,v) :: l,i,h => by
  simp only [rowsLit]
  split
  ·cases hc : cellsV (E.ty e).isAgg v with
   | none => rfl
   | some vs =>
    have hvs : vs.map (frzC H) = vs.map (frzC H2):=by
     have hv:=h (j,v) (by simp)
     simp only at hv
     unfold cellsV at hc
     split at hc
     ·split at hc
      ·split at hc
       ·cases hc;exact frzC_isF hv H H2
       ·cases hc
      ·cases hc
     ·split at hc
      ·cases hc
       cases v with
       | f x => rfl
       | agg cs => rename_i h1;simp [isOne] at h1
       | _ => cases hv
      ·cases hc
    simp only [hvs,rowsLit_isF H H2 l (i + 1) (fun p hp => h p (by simp [hp]))]
  ·rfl
theorem foldl_allF (H : Hp) : ∀ (l : List V),(∀ v ∈ l,allF v = true) → l.foldl marks H = H
 | [],h => rfl
 | v :: l,h => by
  simp only [List.foldl_cons]
  rw [allF_marks (h v (by simp))]
  exact foldl_allF H l fun u hu => h u (by simp [hu])
def lookV (ok : Bool) (v : V) (b : FV) : V:=match ok with | true => .tup [v,.f b] | false => v
theorem split_pure {ag : Bool} {n : Nat} {x : FV} (g : V → V) {k : V → Hp → R} (h : (splitAs ag n x fun v => k (g v) H) = some res) : ∃ v,k v H = some res ∧ ∀ (H2 : Hp) (k2 : V → Hp → R),(splitAs ag n x fun v => k2 (g v) H2) = k2 v H2:=by
 unfold splitAs at h ⊢
 cases ag with
 | true =>
  unfold splitAgg at h ⊢
  obtain ⟨h2,h⟩:=gB_some h
  exact ⟨_,h,fun H2 k2 => by simp only [h2,gB]⟩
 | false => exact ⟨_,h,fun H2 k2 => rfl⟩
theorem gB_some' {α : Type} {b : Bool} {k : Option α} {r : α} (h : gB b k = some r) : b = true ∧ k = some r:=by
 cases b with
 | true => exact ⟨rfl,h⟩
 | false => cases h
theorem results_some {n : Nat} {x : FV} {k : List FV → R} (h : resultsOf n x k = some res) : ∃ xs,k xs = some res ∧ ∀ k',resultsOf n x k' = k' xs:=by
 unfold resultsOf at h ⊢
 split at h
 ·exact ⟨_,h,fun k' => rfl⟩
 ·obtain ⟨hb,h⟩:=gB_some' h
  exact ⟨_,h,fun k' => by simp only [hb,gB]⟩
theorem backK_plain : ∀ (ts : List Nat) (i nid : Nat) (xs : List FV) (H : Hp) (acc : List V) (k : List V → Hp → R),backK E [] i nid ts xs H acc k = some res → ∃ vs,k vs H = some res ∧ ∀ (nid2 : Nat) (H2 : Hp) (k2 : List V → Hp → R),backK E [] i nid2 ts xs H2 acc k2 = k2 vs H2
 | [],i,nid,xs,H,acc,k,h => ⟨_,by simpa only [backK] using h,fun _ H2 k2 => by simp only [backK]⟩
 | t :: ts,i,nid,[],H,acc,k,h => by simp only [backK] at h;cases h
 | t :: ts,i,nid,x :: xs,H,acc,k,h => by
  have ho : ownJ [] i = []:=rfl
  simp only [backK,ho] at h
  have key : ∃ v,backK E [] (i + 1) nid ts xs H (v :: acc) k = some res ∧ ∀ k' : V → R,splitAs (E.ty t).isAgg (E.ty t).size x k' = k' v:=by
   unfold splitAs at h ⊢
   cases hg : (E.ty t).isAgg with
   | true =>
    rw [hg] at h
    simp only [splitAgg] at h ⊢
    obtain ⟨h2,h⟩:=gB_some' h
    exact ⟨_,h,fun k' => by simp only [h2,gB]⟩
   | false => rw [hg] at h;exact ⟨_,h,fun k' => rfl⟩
  obtain ⟨v,h1,h2⟩:=key
  obtain ⟨vs,h3,h4⟩:=backK_plain ts (i + 1) nid xs H (v :: acc) k h1
  exact ⟨vs,h3,fun nid2 H2 k2 => by simp only [backK,ho,h2,h4]⟩
theorem light {k : V → Hp → R} (hr : reads E cuts ops o F H = some T) (h : opK E call inl cuts ops o nid F H k = some res) :
  ∃ v,k v H = some res ∧ ∀ H2,Agree T H H2 → reads E cuts ops o F H2 = some T ∧ ∀ k2,opK E call inl cuts ops o nid F H2 k2 = k2 v H2:=by
 have pure : (∀ H2,reads E cuts ops o F H2 = reads E cuts ops o F H) → (∃ f : (V → R) → R,(∀ H k,opK E call inl cuts ops o nid F H k = f fun v => k v H) ∧ ∀ k res,f k = some res → ∃ v,k v = some res ∧ ∀ k',f k' = k' v) →
   ∃ v,k v H = some res ∧ ∀ H2,Agree T H H2 → reads E cuts ops o F H2 = some T ∧ ∀ k2,opK E call inl cuts ops o nid F H2 k2 = k2 v H2:=by
  intro h1 ⟨f,h2,h3⟩
  rw [h2] at h
  obtain ⟨v,h4,h5⟩:=h3 _ _ h
  exact ⟨v,h4,fun H2 _ => ⟨(h1 H2).trans hr,fun k2 => by rw [h2,h5]⟩⟩
 have ind : ∀ {γ : Type} (x : Option γ) (g : γ → V),∀ (k : V → R) res,(bindO x fun c => k (g c)) = some res → ∃ v,k v = some res ∧ ∀ k' : V → R,(bindO x fun c => k' (g c)) = k' v:=by
  intro γ x g k res hk
  obtain ⟨c,hx,hk⟩:=bindO_some hk
  exact ⟨g c,hk,fun k' => by simp [bindO,hx]⟩
 cases ho : o.op with
 | move x => exact pure (fun _ => by simp only [reads,ho]) ⟨fun k => k (evalV F x),fun H k => by simp only [opK,ho],fun k res hk => ⟨_,hk,fun _ => rfl⟩⟩
 | assign x => exact pure (fun _ => by simp only [reads,ho]) ⟨fun k => k (evalV F x),fun H k => by simp only [opK,ho],fun k res hk => ⟨_,hk,fun _ => rfl⟩⟩
 | pick c x y =>
  simp only [opK,ho] at h
  split at h
  ·rename_i b hc
   exact ⟨_,h,fun H2 _ => ⟨by simp only [reads,ho] at hr ⊢;exact hr,fun k2 => by simp only [opK,ho,hc]⟩⟩
  ·rename_i c' hnb hc
   split at h
   ·rename_i a b ha hb
    obtain ⟨v,hv,h⟩:=bindO_some h
    refine ⟨_,h,fun H2 _ => ⟨by simp only [reads,ho] at hr ⊢;exact hr,fun k2 => ?_⟩⟩
    rcases fCond_some hv with ⟨rfl,hv⟩ | ⟨rfl,hv⟩
    ·exact absurd rfl (hnb true)
    ·exact absurd rfl (hnb false)
   ·cases h
  ·cases h
 | build t parts =>
  refine pure (fun _ => by simp only [reads,ho]) ⟨fun k => opK E call inl cuts ops o nid F H fun v _ => k v,fun H k => ?_,fun k res hk => ?_⟩
  ·simp only [opK,ho]
  ·simp only [opK,ho] at hk ⊢
   split at hk
   ·split at hk
    ·rename_i cs hcs;exact ⟨_,hk,fun _ => by simp only [hcs]⟩
    ·cases hk
   ·split at hk
    ·rename_i cs hcs;exact ⟨_,hk,fun _ => by simp only [hcs]⟩
    ·cases hk
   ·cases hk
 | unOp op xt x =>
  refine pure (fun _ => by simp only [reads,ho]) ⟨fun k => opK E call inl cuts ops o nid F H fun v _ => k v,fun H k => ?_,fun k res hk => ?_⟩
  ·simp only [opK,ho]
  ·simp only [opK,ho] at hk ⊢
   split at hk
   ·exact ind _ _ k res hk
   ·cases hk
 | field t x i =>
  refine pure (fun _ => by simp only [reads,ho]) ⟨fun k => opK E call inl cuts ops o nid F H fun v _ => k v,fun H k => ?_,fun k res hk => ?_⟩
  ·simp only [opK,ho]
  ·simp only [opK,ho] at hk ⊢
   split at hk
   ·split at hk
    ·obtain ⟨hb,hk⟩:=gB_some hk
     exact ⟨_,hk,fun _ => by simp only [hb,gB]⟩
    ·split at hk
     ·rename_i v hv;exact ⟨_,hk,fun _ => by simp only [hv]⟩
     ·cases hk
   ·cases hk
 | index t x i =>
  refine pure (fun _ => by simp only [reads,ho]) ⟨fun k => opK E call inl cuts ops o nid F H fun v _ => k v,fun H k => ?_,fun k res hk => ?_⟩
  ·simp only [opK,ho]
  ·simp only [opK,ho] at hk ⊢
   split at hk
   ·exact ind _ _ k res hk
   ·obtain ⟨hb,hk⟩:=gB_some hk
    obtain ⟨xs,hxs,hk⟩:=bindO_some hk
    obtain ⟨j,hj,hk⟩:=bindO_some hk
    obtain ⟨hjn,hk⟩:=gB_some hk
    split at hk
    ·rw [arrCellsK_eq] at hk
     obtain ⟨z,hz,hk⟩:=bindO_some hk
     exact ⟨_,hk,fun k' => by simp only [arrCellsK_eq,hb,hxs,hj,hjn,hz,gB,bindO]⟩
    ·obtain ⟨hs,hk⟩:=gB_some hk
     obtain ⟨z,hz,hk⟩:=bindO_some hk
     exact ⟨_,hk,fun k' => by simp only [hb,hxs,hj,hjn,hs,hz,gB,bindO]⟩
   ·cases hk
 | extract x i =>
  refine pure (fun _ => by simp only [reads,ho]) ⟨fun k => opK E call inl cuts ops o nid F H fun v _ => k v,fun H k => ?_,fun k res hk => ?_⟩
  ·simp only [opK,ho]
  ·simp only [opK,ho] at hk ⊢
   split at hk
   ·split at hk
    ·rename_i v hv;exact ⟨_,hk,fun _ => by simp only [hv]⟩
    ·cases hk
   ·cases hk
 | makeFunc fn first captured =>
  cases fn with
  | func g =>
   refine pure (fun _ => by simp only [reads,ho]) ⟨fun k => opK E call inl cuts ops o nid F H fun v _ => k v,fun H k => ?_,fun k res hk => ?_⟩
   ·simp only [opK,ho]
   ·simp only [opK,ho] at hk ⊢
    split at hk
    ·exact ⟨_,hk,fun _ => rfl⟩
    ·cases hk
  | _ => simp only [opK,ho] at h;cases h
 | binOp op xt x y yt =>
  simp only [reads,ho] at hr
  obtain ⟨hnn,hr⟩:=gB_some' hr
  simp only [Bool.not_eq_true'] at hnn
  simp only [opK,ho,hnn] at h
  split at h
  ·rename_i a b ha hb
   split at h
   ·rename_i ht
    obtain ⟨v,hv,h⟩:=bindO_some h
    exact ⟨_,h,fun H2 _ => ⟨by simp only [reads,ho,hnn,Bool.not_false,gB];exact hr,fun k2 => by simp only [opK,ho,hnn,ha,hb,ht,hv,bindO]⟩⟩
   ·rename_i ht
    obtain ⟨v,hv,h⟩:=bindO_some h
    refine ⟨_,h,fun H2 _ => ⟨by simp only [reads,ho,hnn,Bool.not_false,gB];exact hr,fun k2 => ?_⟩⟩
    simp only [opK,ho,hnn,ha,hb,hv,bindO]
  ·rename_i as bs ha hb
   obtain ⟨h1,h⟩:=gB_some h
   obtain ⟨v,hv,h⟩:=bindO_some h
   rw [ha,hb] at hr
   simp only [okF] at hr
   split at hr
   ·rename_i hall
    simp only [Bool.and_eq_true] at hall
    refine ⟨_,h,fun H2 _ => ⟨by simp only [reads,ho,hnn,Bool.not_false,gB,ha,hb,hall.1,hall.2,Bool.and_self,okF];exact hr,fun k2 => ?_⟩⟩
    simp only [opK,ho,hnn,ha,hb,h1,gB,frzC_isF hall.1 H2 H,frzC_isF hall.2 H2 H,hv,bindO]
   ·cases hr
  ·cases h
 | convert sd d x =>
  simp only [reads,ho] at hr
  simp only [opK,ho] at h
  split at h
  ·rename_i kd a hd hx
   obtain ⟨h1,h⟩:=gB_some h
   obtain ⟨v,hv,h⟩:=bindO_some h
   exact ⟨_,h,fun H2 _ => ⟨by simp only [reads,ho,hx] at hr ⊢;exact hr,fun k2 => by simp only [opK,ho,hd,hx,h1,gB,hv,bindO]⟩⟩
  ·rename_i a hd hx
   split at h
   ·rename_i e hs
    split at h
    ·rename_i he
     obtain ⟨v,hv,h⟩:=bindO_some h
     exact ⟨_,h,fun H2 _ => ⟨by simp only [reads,ho,hx] at hr ⊢;exact hr,fun k2 => by simp only [opK,ho,hd,hx,hs,he,hv,bindO]⟩⟩
    ·cases h
   ·rename_i hs
    obtain ⟨v,hv,h⟩:=bindO_some h
    exact ⟨_,h,fun H2 _ => ⟨by simp only [reads,ho,hx] at hr ⊢;exact hr,fun k2 => by simp only [opK,ho,hd,hx,hs,hv,bindO]⟩⟩
   ·rename_i hs
    obtain ⟨v,hv,h⟩:=bindO_some h
    exact ⟨_,h,fun H2 _ => ⟨by simp only [reads,ho,hx] at hr ⊢;exact hr,fun k2 => by simp only [opK,ho,hd,hx,hs,hv,bindO]⟩⟩
   ·cases h
  ·rename_i id hd hx
   rw [hx] at hr
   simp only at hr
   split at h
   ·rename_i e hs
    split at h
    ·rename_i he
     split at h
     ·rename_i r hrow
      obtain ⟨v,hv,h⟩:=bindO_some h
      refine ⟨_,h,fun H2 ha => ?_⟩
      obtain ⟨e1,e2⟩:=readsR_agree hr ha
      refine ⟨by simp only [reads,ho,hx];exact e2,fun k2 => ?_⟩
      have hrow2 : rowsOf H2 id = some r:=by simpa [rowsOf,e1] using hrow
      simp only [opK,ho,hd,hx,hs,he,hrow2,hv,bindO]
     ·cases h
    ·cases h
   ·cases h
  ·cases h
 | load t p =>
  simp only [reads,ho] at hr
  simp only [opK,ho] at h
  obtain ⟨a,h1,h2⟩:=load_pure h
  refine ⟨a,h1,fun H2 ha => ?_⟩
  obtain ⟨e1,e2⟩:=load_light hr h ha
  refine ⟨by simp only [reads,ho];exact e1,fun k2 => ?_⟩
  simp only [opK,ho]
  rw [e2]
  exact h2 fun v => k2 v H2
 | nilCheck x =>
  simp only [reads,ho] at hr
  simp only [opK,ho] at h
  split at h
  ·rename_i id i off hx
   obtain ⟨h1,h⟩:=gB_some h
   rw [hx] at hr
   simp only at hr
   refine ⟨_,h,fun H2 ha => ?_⟩
   split at hr
   ·rename_i cs hb
    rcases ha id _ hb with ⟨cs',h1,_,_⟩ | ⟨_,xs,h1⟩
    ·exact ⟨by simp only [reads,ho,hx,h1];exact hr,fun k2 => by simp [opK,ho,hx,there,h1,gB]⟩
    ·exact ⟨by simp only [reads,ho,hx,h1];exact hr,fun k2 => by simp [opK,ho,hx,there,h1,gB]⟩
   ·rename_i xs hb
    have h1:=ha id _ hb
    simp only at h1
    exact ⟨by simp only [reads,ho,hx,h1];exact hr,fun k2 => by simp [opK,ho,hx,there,h1,gB]⟩
   ·cases hr
  ·rename_i g cs hx
   exact ⟨_,h,fun H2 _ => ⟨by simp only [reads,ho,hx] at hr ⊢;exact hr,fun k2 => by simp only [opK,ho,hx]⟩⟩
  ·cases h
 | fieldAddr t x i =>
  simp only [reads,ho] at hr
  simp only [opK,ho] at h
  split at h
  ·rename_i off sz ag hf
   split at h
   ·rename_i p hx
    obtain ⟨v,hv,h⟩:=bindO_some h
    refine ⟨_,h,fun H2 ha => ⟨by simp only [reads,ho];exact (readsA_agree hr ha).1,fun k2 => by simp only [opK,ho,hf,hx,hv,bindO]⟩⟩
   ·rename_i id r o' hx
    obtain ⟨h1,h⟩:=gB_some h
    refine ⟨_,h,fun H2 ha => ⟨by simp only [reads,ho];exact (readsA_agree hr ha).1,fun k2 => ?_⟩⟩
    simp only [opK,ho,hf,hx,((readsA_agree hr ha).2 _ _ _ hx).2,gB]
   ·cases h
  ·cases h
 | indexAddr t x i =>
  simp only [reads,ho] at hr
  simp only [opK,ho,idxK] at h
  split at h
  ·rename_i e i' ht hi
   split at h
   ·rename_i y hx
    obtain ⟨v,hv,h⟩:=bindO_some h
    rw [hx] at hr
    refine ⟨_,h,fun H2 ha => ⟨by simp only [reads,ho,hx];exact (readsA_agree hr ha).1,fun k2 => by simp only [opK,ho,idxK,ht,hi,hx,hv,bindO]⟩⟩
   ·rename_i id hx
    rw [hx] at hr
    simp only at hr
    have go : ∀ {v : V},k v H = some res → (∀ H2,H2[id]? = H[id]? → ∀ k2,opK E call inl cuts ops o nid F H2 k2 = k2 v H2) → ∃ v,k v H = some res ∧ ∀ H2,Agree T H H2 → reads E cuts ops o F H2 = some T ∧ ∀ k2,opK E call inl cuts ops o nid F H2 k2 = k2 v H2:=by
     intro v h1 h2
     refine ⟨v,h1,fun H2 ha => ?_⟩
     obtain ⟨e1,e2⟩:=readsR_agree hr ha
     exact ⟨by simp only [reads,ho,hx];exact e2,h2 H2 e1⟩
    split at h
    ·rename_i sz r hb
     obtain ⟨h1,h⟩:=gB_some h
     obtain ⟨v,hv,h⟩:=bindO_some h
     exact go h fun H2 e1 k2 => by simp only [opK,ho,idxK,ht,hi,hx,e1,hb,h1,gB,hv,bindO]
    ·rename_i r hb
     obtain ⟨h1,h⟩:=gB_some h
     obtain ⟨v,hv,h⟩:=bindO_some h
     exact go h fun H2 e1 k2 => by simp only [opK,ho,idxK,ht,hi,hx,e1,hb,h1,gB,hv,bindO]
    ·rename_i r hb
     obtain ⟨h1,h⟩:=gB_some h
     obtain ⟨v,hv,h⟩:=bindO_some h
     exact go h fun H2 e1 k2 => by simp only [opK,ho,idxK,ht,hi,hx,e1,hb,h1,gB,hv,bindO]
    ·cases h
   ·cases h
  ·rename_i n e i' ht hi
   obtain ⟨h1,h⟩:=gB_some h
   obtain ⟨j,hj,h⟩:=bindO_some h
   obtain ⟨h2,h⟩:=gB_some h
   split at h
   ·rename_i p hx
    obtain ⟨v,hv,h⟩:=bindO_some h
    rw [hx] at hr
    refine ⟨_,h,fun H2 ha => ⟨by simp only [reads,ho,hx];exact (readsA_agree hr ha).1,fun k2 => by simp only [opK,ho,idxK,ht,hi,h1,hj,h2,gB,hx,hv,bindO]⟩⟩
   ·rename_i id r o' hx
    obtain ⟨h3,h⟩:=gB_some h
    rw [hx] at hr
    refine ⟨_,h,fun H2 ha => ⟨by simp only [reads,ho,hx];exact (readsA_agree hr ha).1,fun k2 => ?_⟩⟩
    simp only [opK,ho,idxK,ht,hi,h1,hj,h2,gB,hx,bindO,((readsA_agree hr ha).2 _ _ _ rfl).2]
   ·cases h
  ·cases h
 | lookup t m key ok =>
  simp only [reads,ho] at hr
  simp only [opK,ho] at h
  split at h
  ·rename_i kt e id ht hm
   rw [hm] at hr
   simp only at hr
   split at hr
   ·rename_i hk
    simp only [Option.some.injEq] at hr
    split at h
    ·rename_i ag es hb
     obtain ⟨h1,h⟩:=gB_some h
     obtain ⟨r,hr2,h⟩:=bindO_some h
     simp only [Bool.and_eq_true] at h1
     have h' : (splitAs (E.ty e).isAgg (E.ty e).size r.1 fun v => k (lookV ok v (.bool r.2)) H) = some res:=by cases ok <;> exact h
     obtain ⟨v,f1,f2⟩:=split_pure (fun v => lookV ok v (.bool r.2)) h'
     refine ⟨v,f1,fun H2 ha => ⟨by simp only [reads,ho,hm,hk,hr],fun k2 => ?_⟩⟩
     have hb2:=ha id _ hb (by rw [← hr];simp)
     have hr3:=hr2
     rw [allF_frz hk H H2] at hr3
     simp only [opK,ho,ht,hm,hb2,h1.1.1.1,h1.1.2,h1.2,allF_live hk,Bool.and_self,gB,hr3,bindO]
     refine Eq.trans ?_ (f2 H2 k2)
     cases ok <;> rfl
    ·cases h
   ·cases hr
  ·cases h
 | slice t x lo hi mx =>
  simp only [reads,ho] at hr
  simp only [opK,ho] at h
  split at hr
  ·rename_i y hcut hx
   split at h
   ·rename_i lo' hi' mx' hlo hhi hmx
    split at h
    ·rename_i ht
     split at h
     ·rename_i s hs
      obtain ⟨v,hv,h⟩:=bindO_some h
      exact ⟨_,h,fun H2 _ => ⟨by simp only [reads,ho,hx,hcut];exact hr,fun k2 => by simp only [opK,ho,hlo,hhi,hmx,ht,hs,hv,bindO]⟩⟩
     ·cases h
    ·rename_i e ht
     simp only [hcut] at h
     obtain ⟨v,hv,h⟩:=bindO_some h
     rw [hx] at hv h
     refine ⟨_,h,fun H2 _ => ⟨by simp only [reads,ho,hx,hcut];exact hr,fun k2 => ?_⟩⟩
     have hv2 : fCut (E.ty e).size (frz H2 (.f y)) lo' hi' = some v:=hv
     simp only [opK,ho,hlo,hhi,hmx,ht,hcut,hx,hv2,bindO]
     rfl
    ·rename_i e m ht
     split at h
     ·rename_i hh
      obtain ⟨h',hh',h⟩:=bindO_some h
      obtain ⟨m',hm',h⟩:=bindO_some h
      obtain ⟨h1,h⟩:=gB_some h
      obtain ⟨v,hv,h⟩:=bindO_some h
      rw [hx] at hv h
      refine ⟨_,h,fun H2 _ => ⟨by simp only [reads,ho,hx,hcut];exact hr,fun k2 => ?_⟩⟩
      have hv2 : fCut (E.ty e).size (frz H2 (.f y)) lo' (some hh) = some v:=hv
      simp only [opK,ho,hlo,hhi,hmx,ht,hx,hh',hm',h1,gB,hv2,bindO]
      rfl
     ·cases h
    ·cases h
   ·cases h
  ·cases hr
 | buildSlice t n parts =>
  simp only [reads,ho] at hr
  simp only [opK,ho] at h
  unfold okF at hr
  split at hr
  ·rename_i hall
   simp only [Bool.and_eq_true] at hall
   obtain ⟨hfe,hall⟩:=hall
   have hP : ∀ v ∈ (parts.toList.map fun p => evalV F p.2),allF v = true:=by
    intro v hv
    obtain ⟨p,hp,rfl⟩:=List.mem_map.1 hv
    exact List.all_eq_true.1 hall p hp
   split at h
   ·rename_i e ht
    split at h
    ·rename_i r hrow
     obtain ⟨h1,h⟩:=gB_some h
     simp only [hfe] at h
     rw [foldl_allF H _ hP] at h
     refine ⟨_,h,fun H2 _ => ⟨by simp only [reads,ho,hfe,hall,Bool.and_self,okF];exact hr,fun k2 => ?_⟩⟩
     rw [rowsLit_isF H H2 _ _ (fun p hp => by obtain ⟨q,hq,rfl⟩:=List.mem_map.1 hp;exact List.all_eq_true.1 hall q hq)] at hrow
     simp only [Bool.and_eq_true] at h1
     have h2 : ((parts.toList.map fun p => evalV F p.2).all (liveV H2)) = true:=List.all_eq_true.2 fun v hv => allF_live (hP v hv) H2
     simp only [opK,ho,ht,hrow,h1.1.1,h1.2,h2,Bool.and_self,gB,hfe]
     rw [foldl_allF H2 _ hP]
    ·cases h
   ·cases h
  ·cases hr
 | call c =>
  simp only [reads,ho] at hr
  simp only [opK,ho] at h
  split at hr
  ·rename_i hc
   simp only [hc,builtinK] at h
   split at hr
   ·rename_i x hx
    simp only [hx] at h
    split at h
    ·rename_i t hat
     split at h
     ·rename_i e x' ht hx'
      cases hx'
      obtain ⟨v,hv,h⟩:=bindO_some h
      exact ⟨_,h,fun H2 _ => ⟨by simp only [reads,ho,hc,hx];exact hr,fun k2 => by simp only [opK,ho,hc,builtinK,hx,hat,ht,hv,bindO]⟩⟩
     ·rename_i x' ht hx'
      cases hx'
      obtain ⟨v,hv,h⟩:=bindO_some h
      exact ⟨_,h,fun H2 _ => ⟨by simp only [reads,ho,hc,hx];exact hr,fun k2 => by simp only [opK,ho,hc,builtinK,hx,hat,ht,hv,bindO]⟩⟩
     ·rename_i hx';cases hx'
     ·rename_i hx';cases hx'
     ·cases h
    ·cases h
   ·rename_i id hx
    simp only [hx] at h
    split at h
    ·rename_i t hat
     split at h
     ·rename_i hx';cases hx'
     ·rename_i hx';cases hx'
     ·rename_i e id' ht hx'
      cases hx'
      split at h
      ·rename_i r hrow
       refine ⟨_,h,fun H2 ha => ?_⟩
       obtain ⟨e1,e2⟩:=readsR_agree hr ha
       have hrow2 : rowsOf H2 id = some r:=by simpa [rowsOf,e1] using hrow
       exact ⟨by simp only [reads,ho,hc,hx];exact e2,fun k2 => by simp only [opK,ho,hc,builtinK,hx,hat,ht,hrow2]⟩
      ·cases h
     ·rename_i hx';cases hx'
     ·cases h
    ·cases h
   ·rename_i id hx
    simp only [hx] at h
    simp only [Option.some.injEq] at hr
    split at h
    ·rename_i t hat
     split at h
     ·rename_i hx';cases hx'
     ·rename_i hx';cases hx'
     ·rename_i hx';cases hx'
     ·rename_i kt e id' ht hx'
      cases hx'
      split at h
      ·rename_i ag es hb
       refine ⟨_,h,fun H2 ha => ?_⟩
       have hb2:=ha id _ hb (by rw [← hr];simp)
       exact ⟨by simp only [reads,ho,hc,hx,hr],fun k2 => by simp only [opK,ho,hc,builtinK,hx,hat,ht,hb2]⟩
      ·cases h
     ·cases h
    ·cases h
   ·cases hr
  ·rename_i hc
   simp only [hc,builtinK] at h
   split at h <;> first | (rename_i hb _;cases hb;done) | skip
   ·rename_i x rest _ hx
    obtain ⟨v,h1,h2⟩:=minmax_pure false rest x h
    exact ⟨v,h1,fun H2 _ => ⟨by simp only [reads,ho,hc];exact hr,fun k2 => by simp only [opK,ho,hc,builtinK,hx];exact h2 fun v => k2 v H2⟩⟩
   ·cases h
  ·rename_i hc
   simp only [hc,builtinK] at h
   split at h <;> first | (rename_i hb _;cases hb;done) | skip
   ·rename_i x rest _ hx
    obtain ⟨v,h1,h2⟩:=minmax_pure true rest x h
    exact ⟨v,h1,fun H2 _ => ⟨by simp only [reads,ho,hc];exact hr,fun k2 => by simp only [opK,ho,hc,builtinK,hx];exact h2 fun v => k2 v H2⟩⟩
   ·cases h
  ·rename_i hc
   simp only [hc] at h
   generalize hargs : c.args.toList.map (evalV F) = args at h
   generalize hat : c.argTypes = ats at h
   rcases args with _ | ⟨v,_ | ⟨x,rest⟩⟩
   ·simp only [builtinK] at h;cases h
   ·simp only [builtinK] at h
    split at h
    ·rename_i t ht'
     split at h
     ·rename_i e x ht
      obtain ⟨z,hz,h⟩:=bindO_some h
      exact ⟨_,h,fun H2 _ => ⟨by simp only [reads,ho,hc];exact hr,fun k2 => by simp only [opK,ho,hc,hargs,hat,builtinK,ht',ht,hz,bindO]⟩⟩
     ·cases h
    ·cases h
   ·simp only [builtinK] at h;cases h
  ·rename_i g hc
   split at hr
   ·rename_i hm
    have hA : ∀ v ∈ c.args.toList.map (evalV F),allF v = true:=by
     unfold okF at hr
     split at hr
     ·rename_i hb
      exact fun v hv => List.all_eq_true.1 hb v hv
     ·cases hr
    simp only [hc,evalV,List.append_nil,callK,hm] at h
    cases hf : E.fn g with
    | none => rw [hf] at h;cases h
    | some fn =>
     simp only [hf] at h
     obtain ⟨h1,h⟩:=gB_some' h
     obtain ⟨x,hx,h⟩:=bindO_some h
     obtain ⟨xs,h,hxs⟩:=results_some h
     rw [foldl_allF _ _ hA] at h
     obtain ⟨vs,h,hvs⟩:=backK_plain _ _ _ _ _ _ _ h
     refine ⟨packV vs,h,fun H2 _ => ⟨by simp only [reads,ho,hc,hm];exact hr,fun k2 => ?_⟩⟩
     have e1 : (c.args.toList.map (evalV F)).map (frz H2) = (c.args.toList.map (evalV F)).map (frz H):=List.map_congr_left fun v hv => allF_frz (hA v hv) H2 H
     have e2 : (c.args.toList.map (evalV F)).all (liveV H2) = true:=List.all_eq_true.2 fun v hv => allF_live (hA v hv) H2
     simp only [Bool.and_eq_true] at h1
     simp only [opK,ho,hc,evalV,List.append_nil,callK,hm,hf,e1,e2,h1.1,Bool.and_self,gB,hx,bindO,hxs,foldl_allF _ _ hA,hvs]
   ·cases hr
  ·cases hr
 | _ => simp only [reads,ho] at hr;cases hr
end
end Go.Proofs.YtpffkpaiihcffaaGreatDoor.VM
