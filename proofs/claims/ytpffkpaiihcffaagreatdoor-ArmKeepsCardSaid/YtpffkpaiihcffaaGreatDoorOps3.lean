/- Operations, continued: rows of one's own. -/
import Derived.Test.YtpffkpaiihcffaaGreatDoorOps2
set_option linter.unusedVariables false
set_option linter.unusedSimpArgs false
set_option linter.unusedSectionVars false
namespace Go.Proofs.YtpffkpaiihcffaaGreatDoor.VM
open Go Go.RowKit
section
variable {L : List (Fr × Act)} {B0 : Nat} {G T : Nat → Prop} {w w' w0 : World} {A A' : Nat → Prop} {β : LocOf} {H : Hp}
theorem idsV_mono : ∀ (n : Nat) (v : V) (id : Nat),id ∈ idsV n v → id ∈ idsV (n + 1) v
 | 0,v,id,h => by cases h
 | n + 1,v,id,h => by
  cases v with
  | un => cases h
  | f x => cases h
  | mp i => cases h
  | it i => cases h
  | ref i => exact h
  | ptr i r o => exact h
  | agg cs =>
   obtain ⟨c,hc,h2⟩:=List.mem_flatMap.1 (show id ∈ cs.flatMap (idsV n) from h)
   exact List.mem_flatMap.2 ⟨c,hc,idsV_mono n c id h2⟩
  | tup cs =>
   obtain ⟨c,hc,h2⟩:=List.mem_flatMap.1 (show id ∈ cs.flatMap (idsV n) from h)
   exact List.mem_flatMap.2 ⟨c,hc,idsV_mono n c id h2⟩
  | func g cs =>
   obtain ⟨c,hc,h2⟩:=List.mem_flatMap.1 (show id ∈ cs.flatMap (idsV n) from h)
   exact List.mem_flatMap.2 ⟨c,hc,idsV_mono n c id h2⟩
theorem marksAll_eq (vs : List V) : ∀ (H : Hp),vs.foldl marks H = (vs.flatMap (idsV 4)).foldl markOne H:=by
 induction vs with
 | nil => intro H;rfl
 | cons v vs ih => intro H;rw [List.foldl_cons,ih,List.flatMap_cons,List.foldl_append];rfl
theorem marksAll_rel (hp : HRel B0 G T w A β H) (vs : List V) : ∃ A',FExt w A w A' ∧ HExt β H β (vs.foldl marks H) ∧ HRel B0 G T w A' β (vs.foldl marks H) ∧ ∀ v ∈ vs,∀ id ∈ idsV 4 v,InA β H A' id:=by
 rw [marksAll_eq]
 obtain ⟨A',h1,h2,h3,h4⟩:=marksL_rel (vs.flatMap (idsV 4)) hp
 exact ⟨A',h1,h2,h3,fun v hv id hi => h4 id (List.mem_flatMap.2 ⟨v,hv,hi⟩)⟩
theorem marks_rel (hp : HRel B0 G T w A β H) (v : V) : ∃ A',FExt w A w A' ∧ HExt β H β (marks H v) ∧ HRel B0 G T w A' β (marks H v) ∧ ∀ id ∈ idsV 4 v,InA β H A' id:=marksL_rel (idsV 4 v) hp
theorem frz_rel (hp : HRel B0 G T w A β H) (e : FExt w A w A') {v : V} {c : Value} (hv : VR w A β H v c) (hf : ∀ id ∈ idsV 4 v,InA β H A' id) : FR w A' (frz H v) c:=frzV_rel hp e 4 hv hf
theorem frzC_rel (hp : HRel B0 G T w A β H) (e : FExt w A w A') {v : V} {c : Value} (hv : VR w A β H v c) (hf : ∀ id ∈ idsV 3 v,InA β H A' id) : FR w A' (frzC H v) c:=frzV_rel hp e 3 hv hf
theorem cellsV_ids {agg : Bool} {v : V} {vs : List V} (h : cellsV agg v = some vs) : ∀ x ∈ vs,∀ id ∈ idsV 3 x,id ∈ idsV 4 v:=by
 unfold cellsV at h
 split at h
 ·split at h
  ·split at h
   ·cases h;exact fun x hx id hi => List.mem_flatMap.2 ⟨x,hx,hi⟩
   ·cases h
  ·cases h
 ·split at h
  ·cases h
   intro x hx id hi
   simp at hx;subst hx
   exact idsV_mono 3 _ id hi
  ·cases h
theorem rowsOf_mark {id : Nat} (i : Nat) : rowsOf (markOne H i) id = rowsOf H id:=by
 unfold markOne
 split
 ·rename_i s0 r hr
  have hl:=(List.getElem?_eq_some_iff.1 hr).1
  unfold rowsOf
  rw [get_set_hp]
  by_cases e : i = id
  ·subst e;rw [if_pos ⟨rfl,hl⟩,hr]
  ·rw [if_neg (fun h => e h.1)]
 ·rename_i cs hr
  have hl:=(List.getElem?_eq_some_iff.1 hr).1
  cases hc : cellsF cs with
  | none => rfl
  | some xs =>
   simp only
   unfold rowsOf
   rw [get_set_hp]
   by_cases e : i = id
   ·subst e;rw [if_pos ⟨rfl,hl⟩,hr]
   ·rw [if_neg (fun h => e h.1)]
 ·rfl
theorem rowsOf_marks {id : Nat} (ids : List Nat) : ∀ (H : Hp),rowsOf (ids.foldl markOne H) id = rowsOf H id:=by
 induction ids with
 | nil => intro H;rfl
 | cons i ids ih => intro H;rw [List.foldl_cons,ih,rowsOf_mark]
theorem own_settle {id s0 : Nat} {r : List (List FV)} (h : (settle H)[id]? = some (.own s0 r)) : H[id]? = some (.own s0 r):=by
 have hg : (settle H)[id]? = (H[id]?).map settleB:=by simp [settle]
 rw [hg] at h
 cases hq : H[id]? with
 | none => rw [hq] at h;cases h
 | some q => rw [hq] at h;cases q <;> simp [settleB] at h;rw [h.1,h.2]
theorem HRel.turnAt {b : Nat} (h : HRel B0 G T w A β H) (hsz : w'.heap.size = w.heap.size) (hoth : ∀ b',b' ≠ b → w'.heap[b']? = w.heap[b']?) (hA : ¬ A b)
  (hb : FExt w A w' A → ∀ (i : Nat) k,H[i]? = some k → k ≠ .dead → (β i).block = some b → BRel w' A β H (β i) k) : FExt w A w' A ∧ HRel B0 G T w' A β H:=by
 have fe : FExt w A w' A:=⟨fun _ h => h,fun b' hb' => hoth b' (fun e => hA (e ▸ hb'))⟩
 refine ⟨fe,⟨?_,h.inj,h.ours,fun b' hb' => by rw [hsz];exact h.lt b' hb',h.low,h.gt,by rw [hsz];exact h.base,h.top⟩⟩
 intro i k hk
 by_cases hd : k = .dead
 ·subst hd;trivial
 by_cases e : (β i).block = some b
 ·exact hb fe i k hk hd e
 ·refine (h.blk i k hk).mono fe (HExt.refl β H) (by omega) fun b' hb' => hoth b' fun e2 => ?_
  subst e2;exact e hb'
theorem HRel.retire {id s0 : Nat} {r : List (List FV)} (h : HRel B0 G T w A β H) (hk : H[id]? = some (.own s0 r)) : HExt β H β (H.set id (.old r)) ∧ HRel B0 G T w A β (H.set id (.old r)):=by
 have hl : id < H.length:=(List.getElem?_eq_some_iff.1 hk).1
 have he : HExt β H β (H.set id (.old r)):=HExt.set hk (fun q hq => ⟨q,by
  unfold rowsOf at hq ⊢
  rw [hk] at hq
  rw [get_set_hp,if_pos ⟨rfl,hl⟩];exact hq,rfl⟩) (by simp)
 refine ⟨he,⟨?_,?_,?_,h.lt,h.low,h.gt,h.base,h.top⟩⟩
 ·intro i x hi
  rw [get_set_hp] at hi
  by_cases e : id = i
  ·subst e
   rw [if_pos ⟨rfl,hl⟩] at hi;cases hi
   rcases h.blk id _ hk with h1 | ⟨b,o,cap,h1,h2,h3,h4,h5,c,ty,h6,h7⟩
   ·exact .inl h1
   ·exact .inr ⟨b,o,s0,cap,h1,h2,h3,h5,(Array.getElem?_eq_some_iff.1 h6).1⟩
  ·rw [if_neg (fun q => e q.1)] at hi
   exact (h.blk i x hi).mono (FExt.refl w A) he (Nat.le_refl _) (fun _ _ => rfl)
 ·intro i i' b o s cap o' s' cap' x x' hi hi' hax hax' hl1 hl2
  rw [get_set_hp] at hi hi'
  by_cases e : id = i
  ·subst e;rw [if_pos ⟨rfl,hl⟩] at hi;cases hi;cases hax
  ·by_cases e' : id = i'
   ·subst e';rw [if_pos ⟨rfl,hl⟩] at hi';cases hi';cases hax'
   ·rw [if_neg (fun q => e q.1)] at hi;rw [if_neg (fun q => e' q.1)] at hi'
    exact h.inj i i' b o s cap o' s' cap' x x' hi hi' hax hax' hl1 hl2
 ·intro i b o s cap x hi hax hl1
  rw [get_set_hp] at hi
  by_cases e : id = i
  ·subst e;rw [if_pos ⟨rfl,hl⟩] at hi;cases hi;cases hax
  ·rw [if_neg (fun q => e q.1)] at hi
   exact h.ours i b o s cap x hi hax hl1
theorem cell_ne {s i k i' k' : Nat} (hk : k < s) (hk' : k' < s) (h : i * s + k = i' * s + k') : i = i' ∧ k = k':=by
 have key : ∀ {i i' k k' : Nat},k < s → i < i' → i * s + k = i' * s + k' → False:=by
  intro i i' k k' hk hlt h
  have:=Nat.mul_le_mul_right s (Nat.succ_le_of_lt hlt)
  rw [Nat.succ_mul] at this
  omega
 rcases Nat.lt_trichotomy i i' with h1 | h1 | h1
 ·exact (key hk h1 h).elim
 ·subst h1;exact ⟨rfl,by omega⟩
 ·exact (key hk' h1 h.symm).elim
theorem cell_lt {s i k n : Nat} (hk : k < s) (hi : i < n) : i * s + k < n * s:=by
 have:=Nat.mul_le_mul_right s (Nat.succ_le_of_lt hi)
 rw [Nat.succ_mul] at this
 omega
theorem rSet_row {row vs : List FV} {o k : Nat} (h : o + vs.length ≤ row.length) : (row.take o ++ vs ++ row.drop (o + vs.length))[k]? = if o ≤ k ∧ k < o + vs.length then vs[k - o]? else row[k]?:=by
 have h1 : (row.take o).length = o:=by simp;omega
 rw [List.append_assoc,List.getElem?_append]
 split
 ·rw [if_neg (by omega),List.getElem?_take,if_pos (by omega)]
 ·rw [List.getElem?_append,h1]
  split
  ·rw [if_pos (by omega)]
  ·rw [if_neg (by omega),List.getElem?_drop]
   congr 1;omega
theorem RowsAt.set {b o1 s i o : Nat} {r r' : List (List FV)} {xs : List FV} {us : List Value} {c : Array Value} {e : TypeId} (h : RowsAt w A b o1 s r) (hc : w.heap[b]? = some (.cells c e (0,0))) (hsz : o1 + r.length * s ≤ c.size)
  (hr : rSet r i o xs = some r') (fe : FExt w A (w.setCells b (o1 + (i * s + o)) us) A) (hl : xs.length = us.length) (h1 : ∀ u ∈ us,u.oneCell' = true) (hx : ∀ (k : Nat) x u,xs[k]? = some x → us[k]? = some u → FR w A x u) :
  RowsAt (w.setCells b (o1 + (i * s + o)) us) A b o1 s r' ∧ r'.length = r.length ∧ (∃ c',(w.setCells b (o1 + (i * s + o)) us).heap[b]? = some (.cells c' e (0,0)) ∧ c'.size = c.size) ∧ o1 + (i * s + o) + us.length ≤ c.size:=by
 unfold rSet at hr
 obtain ⟨row,hrow,hr⟩:=bindO_some hr
 split at hr
 ·rename_i hfit
  cases hr
  have hi : i < r.length:=(List.getElem?_eq_some_iff.1 hrow).1
  have hrl : row.length = s:=h.1 row (List.mem_of_getElem? hrow)
  have hbound : o1 + (i * s + o) + us.length ≤ c.size:=by
   have:=Nat.mul_le_mul_right s (Nat.succ_le_of_lt hi)
   rw [Nat.succ_mul] at this
   omega
  obtain ⟨c',g1,g2,g3⟩:=setCells_block b us (o1 + (i * s + o)) w c hc hbound
  refine ⟨⟨?_,?_⟩,by simp,⟨c',g1,g2⟩,hbound⟩
  ·intro q hq
   obtain ⟨j,hj,rfl⟩:=List.mem_iff_getElem.1 hq
   rw [List.getElem_set]
   split
   ·simp;omega
   ·exact h.1 _ (List.getElem_mem _)
  ·intro i' q k x hq hk
   rw [List.getElem?_set] at hq
   rw [cell_at g1,g3]
   by_cases ei : i = i'
   ·subst ei
    rw [if_pos rfl,if_pos hi] at hq
    cases hq
    rw [rSet_row hfit] at hk
    by_cases hin : o ≤ k ∧ k < o + xs.length
    ·rw [if_pos hin] at hk
     rw [if_pos (by omega)]
     have hu : k - o < us.length:=by omega
     refine ⟨us[k - o],?_,h1 _ (List.getElem_mem hu),(hx (k - o) x _ hk (List.getElem?_eq_getElem hu)).mono fe⟩
     rw [show o1 + (i * s + k) - (o1 + (i * s + o)) = k - o by omega]
     exact List.getElem?_eq_getElem hu
    ·rw [if_neg hin] at hk
     rw [if_neg (by omega)]
     obtain ⟨u,q1,q2,q3⟩:=h.2 i row k x hrow hk
     rw [cell_at hc] at q1
     exact ⟨u,q1,q2,q3.mono fe⟩
   ·rw [if_neg ei] at hq
    obtain ⟨u,q1,q2,q3⟩:=h.2 i' q k x hq hk
    have hks : k < s:=by have:=h.1 q (List.mem_of_getElem? hq);have:=(List.getElem?_eq_some_iff.1 hk).1;omega
    rw [if_neg]
    ·rw [cell_at hc] at q1
     exact ⟨u,q1,q2,q3.mono fe⟩
    ·intro hh
     have:=(cell_ne (s:=s) (i:=i) (k:=i' * s + k - i * s) (i':=i') (k':=k) (by omega) hks (by omega)).1
     exact ei this
 ·cases hr
end
section
variable {P : Program} {E : Env} {L : List (Fr × Act)} {B0 : Nat} {G T : Nat → Prop} {w0 w : World} {A : Nat → Prop} {β : LocOf} {H : Hp} {F : Fr} {a : Act} {o : Oper}
variable {next : Act → World → Prop} {Q : Exit → Act → World → Prop} {res : FV}
theorem there_own {id s0 : Nat} {r : List (List FV)} (h : H[id]? = some (.own s0 r)) : there H id = true:=by simp [there,h]
theorem storeRow_ok {k : V → Hp → R} {t : TypeId} {p x : Operand} {vs : List V} {id i off s0 s1 : Nat} {r q r' : List (List FV)} (hty : TyOk P E.ty) (ho : o.op = .store t p x) (hk : (E.ty t).known = true) (hc : cellsV (E.ty t).isAgg (evalV F x) = some vs)
  (hl : vs.length = (E.ty t).size) (hp : evalV F p = .ptr id i off) (hH : H[id]? = some (.own s0 r)) (hr : rSet r i off (vs.map (frzC H)) = some r') (hq : (settle (marks H (.agg vs)))[id]? = some (.own s1 q))
  (st : St L B0 G T w0 F H a w A β) (hn : Nxt L B0 G T w0 F a o next res k) (h : k .un ((settle (marks H (.agg vs))).set id (.own s1 r')) = some res) : o.wp P a w next Q:=by
 obtain ⟨c1,c2,c3,c4,_⟩:=cellsV_rel hc (st.ev x) (fun _ h => cells_one h)
 obtain ⟨A1,fe1,he1,hp1,hin⟩:=marks_rel st.hp (.agg vs)
 obtain ⟨he2,hp2⟩:=settle_rel hp1
 have hqr : q = r:=by
  have h1 : rowsOf (marks H (.agg vs)) id = some q:=by unfold rowsOf;rw [own_settle hq]
  unfold marks at h1
  rw [rowsOf_marks] at h1
  unfold rowsOf at h1
  rw [hH] at h1;cases h1;rfl
 subst hqr
 obtain ⟨b,o1,s,cap,hcp,hloc,hlt⟩:=there_ptr (there_own hH) (hp ▸ st.ev p)
 rcases hp2.blk id _ hq with ⟨h0,_⟩ | ⟨b2,o2,cap2,h7,h8,h9,h10,h11,c,e,h12,h13⟩
 ·rw [hloc] at h0;cases h0
 rw [hloc] at h7;cases h7
 have hus : (a.eval x).cells.toList.length = vs.length:=c1
 have hoth : ∀ b',b' ≠ b → (w.setCells b (o1 + (i * s1 + off)) (a.eval x).cells.toList).heap[b']? = w.heap[b']?:=fun b' hb' => setCells_other b b' hb' _ _ _
 have hsz : (w.setCells b (o1 + (i * s1 + off)) (a.eval x).cells.toList).heap.size = w.heap.size:=setCells_size _ _ _ _
 have hours:=hp2.ours id b o1 s1 cap _ hq rfl hloc
 have fe0 : FExt w A1 (w.setCells b (o1 + (i * s1 + off)) (a.eval x).cells.toList) A1:=⟨fun _ h => h,fun b' hb' => hoth b' (fun e => hours.2 (e ▸ hb'))⟩
 obtain ⟨g1,g2,⟨c',g3,g4⟩,g5⟩:=h11.set h12 (by have:=Nat.mul_le_mul_right s1 h9;omega) hr fe0 (by simpa using c1.symm) c3 (by
  intro k x u hx hu
  rw [List.getElem?_map] at hx
  cases hv : vs[k]? with
  | none => rw [hv] at hx;cases hx
  | some v =>
   rw [hv] at hx;cases hx
   exact frzC_rel st.hp fe1 (c2 k v u hv hu) fun j hj => hin j (List.mem_flatMap.2 ⟨v,List.mem_of_getElem? hv,hj⟩))
 have heSet : HExt β (settle (marks H (.agg vs))) β ((settle (marks H (.agg vs))).set id (.own s1 r')):=HExt.set hq (fun r0 hr0 => by
  refine ⟨r',?_,?_⟩
  ·unfold rowsOf;rw [get_set_hp,if_pos ⟨rfl,(List.getElem?_eq_some_iff.1 hq).1⟩]
  ·unfold rowsOf at hr0;rw [hq] at hr0;cases hr0;exact g2) (by simp)
 obtain ⟨fe,hp3⟩:=hp2.turn (k':=.own s1 r') hq rfl hloc (fun i r => no_old i r) hsz hoth heSet rfl (.inr ⟨b,o1,cap,rfl,h8,by omega,h10,g1,c',e,g3,by omega⟩)
 obtain ⟨p1,p2,p3⟩:=setCells_os b (a.eval x).cells.toList (o1 + (i * s1 + off)) w
 refine wp_skp hn h ⟨st.fr.mono (fe1.trans fe) ((he1.trans he2).trans heSet),hp3,st.below_turn hours.1 p1 p2 p3 hsz hoth⟩ ?_
 have hrun:=run_setCells (P:=P) b (o1 + (i * s1 + off)) w (a.eval x).cells.toList h12 g5 c3
 have hsize:=run_sizeOf w (hty t) hk
 have hcs : (a.eval x).cells.size = (E.ty t).size:=by rw [← hl,← c1];simp
 simp [execOp,ho,Instr.storeAt,hcp,Instr.sureAddr,storeVar,hsize,hcs,hrun]
end
end Go.Proofs.YtpffkpaiihcffaaGreatDoor.VM
