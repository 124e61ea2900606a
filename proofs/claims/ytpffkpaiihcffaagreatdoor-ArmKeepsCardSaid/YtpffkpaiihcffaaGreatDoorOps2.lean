/- Operations, continued: loads, stores, what is built. -/
import Derived.Test.YtpffkpaiihcffaaGreatDoorOps
set_option linter.unusedVariables false
set_option linter.unusedSimpArgs false
set_option linter.unusedSectionVars false
namespace Go.Proofs.YtpffkpaiihcffaaGreatDoor.VM
open Go Go.RowKit
section
variable {P : Program} {E : Env} {L : List (Fr × Act)} {B0 : Nat} {G T : Nat → Prop} {w0 w : World} {A : Nat → Prop} {β : LocOf} {H : Hp} {F : Fr} {a : Act} {o : Oper}
variable {next : Act → World → Prop} {Q : Exit → Act → World → Prop} {res : FV}
theorem ldCells_rel {p : V} {c : Value} {k : List V → R} (hv : VR w A β H p c) (hp : HRel B0 G T w A β H) : ∀ (n off : Nat) (acc : List V),ldCells H p n off acc k = some res →
  ∃ (xs : List V) (us : List Value),xs.length = n ∧ us.length = n ∧ (0 < n → ∃ ad,c = .pointer (some ad) ∧ ∀ (j : Nat) u,us[j]? = some u → w.cell? (ad.add (off + j)) = some u) ∧ (∀ u ∈ us,u.oneCell' = true) ∧ (∀ x ∈ xs,isOne x = true) ∧
   (∀ (j : Nat) x u,xs[j]? = some x → us[j]? = some u → VR w A β H x u) ∧ k (acc.reverse ++ xs) = some res
 | 0,off,acc,h => ⟨[],[],rfl,rfl,fun h => by omega,by simp,by simp,by simp,by simpa [ldCells] using h⟩
 | n + 1,off,acc,h => by
  simp only [ldCells] at h
  obtain ⟨ad,u,x,h1,h2,h3,h4,h5,h6⟩:=ldCell_rel hv hp h
  obtain ⟨xs,us,g1,g2,g3,g4,g5,g6,g7⟩:=ldCells_rel hv hp n (off + 1) (x :: acc) h6
  refine ⟨x :: xs,u :: us,by simp [g1],by simp [g2],fun _ => ⟨ad,h1,?_⟩,?_,?_,?_,by simpa using g7⟩
  ·intro j u' hj
   cases j with
   | zero => cases hj;exact h2
   | succ j =>
    have hn : 0 < n:=by have:=(List.getElem?_eq_some_iff.1 hj).1;simp at this;omega
    obtain ⟨ad2,q1,q2⟩:=g3 hn
    rw [h1] at q1;cases q1
    have:=q2 j u' hj
    rwa [show off + 1 + j = off + (j + 1) by omega] at this
  ·intro u' hu
   rcases List.mem_cons.1 hu with rfl | hu
   ·exact h3
   ·exact g4 u' hu
  ·intro x' hx
   rcases List.mem_cons.1 hx with rfl | hx
   ·exact h4
   ·exact g5 x' hx
  ·intro j x' u' hx hu
   cases j with
   | zero => cases hx;cases hu;exact h5
   | succ j => exact g6 j x' u' hx hu
variable (hty : TyOk P E.ty)
include hty
theorem loadK_rel {t : Nat} {p : V} {c : Value} {k : V → R} (hv : VR w A β H p c) (hp : HRel B0 G T w A β H) (h : loadK E H t p k = some res) :
  ∃ (u : Value) (x : V),(Instr.loadAt t c).run P w = .ok u w ∧ VR w A β H x u ∧ k x = some res:=by
 unfold loadK at h
 obtain ⟨hk,h⟩:=gB_some h
 have hagg:=run_isAgg w (hty t) hk
 have hsz:=run_sizeOf w (hty t) hk
 split at h
 ·rename_i ha
  obtain ⟨hpos,h⟩:=gB_some h
  obtain ⟨xs,us,g1,g2,g3,g4,g5,g6,g7⟩:=ldCells_rel hv hp _ _ _ h
  obtain ⟨ad,rfl,hcell⟩:=g3 (Nat.le_of_ble_eq_true hpos)
  refine ⟨.agg us.toArray,.agg xs,?_,.agg xs us (g1.trans g2.symm) g6,by simpa using g7⟩
  have hl:=run_loadCells_list (P:=P) w ad us (fun j v hj => by simpa using hcell j v hj)
  rw [g2] at hl
  simp [Instr.loadAt,Instr.sureAddr,loadVar,hagg,ha,hsz,hl]
 ·rename_i ha
  obtain ⟨ad,u,x,rfl,h2,h3,h4,h5,h6⟩:=ldCell_rel hv hp h
  refine ⟨u,x,?_,h5,h6⟩
  rw [add_zero_addr] at h2
  simp [Instr.loadAt,Instr.sureAddr,loadVar,hagg,ha,h2]
theorem load_ok {k : V → Hp → R} {t : TypeId} {p : Operand} (ho : o.op = .load t p) (st : St L B0 G T w0 F H a w A β) (hn : Nxt L B0 G T w0 F a o next res k) (h : loadK E H t (evalV F p) (fun v => k v H) = some res) : o.wp P a w next Q:=by
 obtain ⟨u,x,h1,h2,h3⟩:=loadK_rel hty (st.ev p) st.hp h
 exact wp_val st hn h3 h2 (by simp [execOp,ho,h1])
omit hty in
theorem listSets_get {α : Type} : ∀ (vs : List α) (l : List α) (o k : Nat),o + vs.length ≤ l.length → (listSets l o vs)[k]? = if o ≤ k ∧ k < o + vs.length then vs[k - o]? else l[k]?
 | [],l,o,k,_ => by simp [listSets];intro h1 h2;omega
 | v :: vs,l,o,k,hf => by
  simp only [List.length_cons] at hf
  rw [listSets,listSets_get vs _ (o + 1) k (by simp;omega)]
  by_cases hk : o + 1 ≤ k ∧ k < o + 1 + vs.length
  ·rw [if_pos hk,if_pos (by simp;omega)]
   obtain ⟨m,rfl⟩ : ∃ m,k = o + 1 + m:=⟨k - (o + 1),by omega⟩
   rw [show o + 1 + m - (o + 1) = m by omega,show o + 1 + m - o = m + 1 by omega];rfl
  ·rw [if_neg hk]
   by_cases he : k = o
   ·subst he
    rw [if_pos (by simp),List.getElem?_set]
    simp
    omega
   ·rw [if_neg (by simp;omega),List.getElem?_set,if_neg (by omega)]
omit hty in
theorem listSets_length {α : Type} : ∀ (vs : List α) (l : List α) (o : Nat),(listSets l o vs).length = l.length
 | [],l,o => rfl
 | v :: vs,l,o => by rw [listSets,listSets_length vs];simp
omit hty in
theorem HExt.set {id : Nat} {k k' : Blk} (hk : H[id]? = some k) (hr : ∀ r,rowsOf H id = some r → ∃ r',rowsOf (H.set id k') id = some r' ∧ r'.length = r.length) (hd : k ≠ .dead) : HExt β H β (H.set id k'):=by
 refine ⟨fun _ _ _ => rfl,by simp,fun i r h => ?_,fun i h => ?_⟩
 ·by_cases e : id = i
  ·subst e;exact .inl (hr r h)
  ·refine .inl ⟨r,?_,rfl⟩
   unfold rowsOf at h ⊢
   rw [get_set_hp,if_neg (fun q => e q.1)];exact h
 ·rw [get_set_hp]
  by_cases e : id = i
  ·subst e;rw [hk] at h;cases h;exact absurd rfl hd
  ·rw [if_neg (fun q => e q.1)];exact h
omit hty in
theorem no_old (i : Nat) (r : List (List FV)) : (settle H)[i]? ≠ some (.old r):=by
 intro h
 have hg : (settle H)[i]? = (H[i]?).map settleB:=by simp [settle]
 rw [hg] at h
 cases hq : H[i]? with
 | none => rw [hq] at h;cases h
 | some q => rw [hq] at h;cases q <;> simp [settleB] at h
omit hty in
theorem settle_get {i : Nat} {k : Blk} (h : H[i]? = some k) (hk : ∀ r,k ≠ .old r) : (settle H)[i]? = some k:=by
 have hg : (settle H)[i]? = (H[i]?).map settleB:=by simp [settle]
 rw [hg,h]
 cases k <;> simp_all [settleB]
theorem storeBox_ok {k : V → Hp → R} {t : TypeId} {p x : Operand} {vs : List V} {id off : Nat} {cs : List V} (ho : o.op = .store t p x) (hk : (E.ty t).known = true) (hc : cellsV (E.ty t).isAgg (evalV F x) = some vs)
  (hl : vs.length = (E.ty t).size) (hp : evalV F p = .ptr id 0 off) (hH : H[id]? = some (.box cs)) (hf : off + vs.length ≤ cs.length)
  (st : St L B0 G T w0 F H a w A β) (hn : Nxt L B0 G T w0 F a o next res k) (h : k .un ((settle H).set id (.box (listSets cs off vs))) = some res) : o.wp P a w next Q:=by
 obtain ⟨c1,c2,c3,c4,_⟩:=cellsV_rel hc (st.ev x) (fun _ h => cells_one h)
 obtain ⟨he1,hp1⟩:=settle_rel st.hp
 have hH' : (settle H)[id]? = some (.box cs):=settle_get hH (by simp)
 have hptr:=hp ▸ st.ev p
 obtain ⟨b,o1,s,cap,hcp,hloc,hlt⟩:=there_ptr (by simp [there,hH]) hptr
 obtain ⟨b2,s2,h7,h8,⟨c,e,h9,h10⟩,h11⟩:=hp1.blk id _ hH'
 rw [hloc] at h7
 obtain ⟨rfl,rfl,rfl,rfl⟩ : b2 = b ∧ o1 = 0 ∧ s2 = s ∧ cap = 1:=by injection h7 with q1 q0 q2 q3;exact ⟨q1.symm,q0,q2.symm,q3⟩
 have hus : (a.eval x).cells.toList.length = vs.length:=c1
 obtain ⟨c',g1,g2,g3⟩:=setCells_block b2 (a.eval x).cells.toList off w c h9 (by rw [hus];omega)
 have heSet : HExt β (settle H) β ((settle H).set id (.box (listSets cs off vs))):=HExt.set hH' (fun r hr => by unfold rowsOf at hr;rw [hH'] at hr;cases hr) (by simp)
 have hoth : ∀ b',b' ≠ b2 → (w.setCells b2 off (a.eval x).cells.toList).heap[b']? = w.heap[b']?:=fun b' hb' => setCells_other b2 b' hb' _ _ _
 have hsz : (w.setCells b2 off (a.eval x).cells.toList).heap.size = w.heap.size:=setCells_size _ _ _ _
 have fe0 : FExt w A (w.setCells b2 off (a.eval x).cells.toList) A:=⟨fun _ h => h,fun b' hb' => hoth b' (fun e => (hp1.ours id b2 0 s2 1 _ hH' rfl hloc).2 (e ▸ hb'))⟩
 obtain ⟨fe,hp2⟩:=hp1.turn (k':=.box (listSets cs off vs)) hH' rfl hloc (fun i r => no_old i r) hsz hoth heSet rfl (by
  refine ⟨b2,s2,rfl,by rw [listSets_length];exact h8,⟨c',e,g1,by rw [g2];exact h10⟩,fun j v hv => ?_⟩
  rw [listSets_get _ _ _ _ hf] at hv
  rw [cell_at g1,g3]
  rw [hus]
  by_cases hj : off ≤ j ∧ j < off + vs.length
  ·rw [if_pos hj] at hv ⊢
   have hlt : j - off < (a.eval x).cells.toList.length:=by omega
   refine ⟨_,List.getElem?_eq_getElem hlt,c3 _ (List.getElem_mem hlt),c4 v (List.mem_of_getElem? hv),(c2 (j - off) v _ hv (List.getElem?_eq_getElem hlt)).mono fe0 (he1.trans heSet)⟩
  ·rw [if_neg hj] at hv ⊢
   obtain ⟨u,q1,q2,q3,q4⟩:=h11 j v hv
   rw [cell_at h9] at q1
   exact ⟨u,q1,q2,q3,q4.mono fe0 heSet⟩)
 have hours:=(hp1.ours id b2 0 s2 1 _ hH' rfl hloc).1
 obtain ⟨o1,o2,o3⟩:=setCells_os b2 (a.eval x).cells.toList off w
 refine wp_skp hn h ⟨st.fr.mono fe (he1.trans heSet),hp2,st.below_turn hours o1 o2 o3 hsz hoth⟩ ?_
 have hrun:=run_setCells (P:=P) b2 off w (a.eval x).cells.toList h9 (by rw [hus];omega) c3
 have hsize:=run_sizeOf w (hty t) hk
 have hcs : (a.eval x).cells.size = (E.ty t).size:=by rw [← hl,← c1];simp
 simp [execOp,ho,Instr.storeAt,hcp,Instr.sureAddr,storeVar,hsize,hcs,hrun]
end
end Go.Proofs.YtpffkpaiihcffaaGreatDoor.VM
