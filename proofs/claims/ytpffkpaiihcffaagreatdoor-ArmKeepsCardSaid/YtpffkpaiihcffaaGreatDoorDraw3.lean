/- Regions that draw: an operation hangs on the temporaries alone that it looks at. -/
import Derived.Test.YtpffkpaiihcffaaGreatDoorDraw2
set_option linter.unusedVariables false
set_option linter.unusedSimpArgs false
set_option linter.unusedSectionVars false
namespace Go.Proofs.YtpffkpaiihcffaaGreatDoor.VM
open Go Go.RowKit
section
variable {E : Env} {call : Nat → List FV → Option FV} {inl : Inl} {cuts : List Nat} {ops : Array Oper} {o : Oper} {nid : Nat} {F F2 : Fr} {H : Hp} {res : FV}
def SameOps (o : Oper) (F F2 : Fr) : Prop:=∀ x ∈ o.op.operands,evalV F x = evalV F2 x
theorem parts_congr {l : List (Nat × Operand)} (h : ∀ x ∈ l.map (·.2),evalV F x = evalV F2 x) : (l.map fun p => (p.1,evalV F p.2)) = l.map fun p => (p.1,evalV F2 p.2) :=
 List.map_congr_left fun p hp => by rw [h p.2 (List.mem_map.2 ⟨p,hp,rfl⟩)]
theorem parts2_congr {l : List (Nat × Operand)} (h : ∀ x ∈ l.map (·.2),evalV F x = evalV F2 x) : (l.map fun p => evalV F p.2) = l.map fun p => evalV F2 p.2 :=
 List.map_congr_left fun p hp => h p.2 (List.mem_map.2 ⟨p,hp,rfl⟩)
theorem evals_congr {l : List Operand} (h : ∀ x ∈ l,evalV F x = evalV F2 x) : l.map (evalV F) = l.map (evalV F2):=List.map_congr_left h
theorem opt_congr {x : Option Operand} (h : ∀ y,x = some y → evalV F y = evalV F2 y) : x.map (evalV F) = x.map (evalV F2):=by
 cases x with
 | none => rfl
 | some y => simp [h y rfl]
theorem opK_congr (h : SameOps o F F2) : opK E call inl cuts ops o nid F H = opK E call inl cuts ops o nid F2 H:=by
 funext k
 unfold SameOps at h
 cases ho : o.op with
 | build t parts =>
  rw [ho] at h
  have h1:=parts_congr (F:=F) (F2:=F2) (l:=parts.toList) (fun x hx => h x (by simpa [Op.operands] using hx))
  simp only [opK,ho,h1]
 | buildSlice t n parts =>
  rw [ho] at h
  have h1:=parts_congr (F:=F) (F2:=F2) (l:=parts.toList) (fun x hx => h x (by simpa [Op.operands] using hx))
  have h2:=parts2_congr (F:=F) (F2:=F2) (l:=parts.toList) (fun x hx => h x (by simpa [Op.operands] using hx))
  simp only [opK,ho,h1,h2]
 | makeFunc fn first captured =>
  rw [ho] at h
  have h1:=evals_congr (F:=F) (F2:=F2) (l:=captured.toList) (fun x hx => h x (by simp only [Op.operands,Array.mem_append];exact .inr (by simpa using hx)))
  cases fn <;> simp only [opK,ho,h1]
 | makeMap t r => cases r <;> simp only [opK,ho]
 | slice t x lo hi mx =>
  rw [ho] at h
  have h0 : evalV F x = evalV F2 x:=h x (by simp [Op.operands])
  have h1:=opt_congr (F:=F) (F2:=F2) (x:=lo) (fun y e => h y (by simp [Op.operands,e]))
  have h2:=opt_congr (F:=F) (F2:=F2) (x:=hi) (fun y e => h y (by simp [Op.operands,e]))
  have h3:=opt_congr (F:=F) (F2:=F2) (x:=mx) (fun y e => h y (by simp [Op.operands,e]))
  simp only [opK,ho,h0,h1,h2,h3]
 | call c =>
  rw [ho] at h
  have h1:=evals_congr (F:=F) (F2:=F2) (l:=c.args.toList) (fun x hx => h x (by simp only [Op.operands,Call.operands,Array.mem_append];exact .inr (by simpa using hx)))
  have h2 : ∀ f,c.callee = .value f → evalV F f = evalV F2 f:=fun f e => h f (by simp [Op.operands,Call.operands,e])
  simp only [opK,ho,h1]
  cases hc : c.callee with
  | value f => simp only [h2 f hc]
  | _ => rfl
 | next x b =>
  rw [ho] at h
  have h0 : evalV F x = evalV F2 x:=h x (by simp [Op.operands])
  cases b <;> simp only [opK,ho,h0]
 | _ =>
  rw [ho] at h
  simp only [Op.operands,List.mem_toArray,List.mem_cons,List.not_mem_nil,or_false,forall_eq_or_imp,forall_eq] at h
  simp only [opK,ho,h]
theorem reads_congr (h : SameOps o F F2) : reads E cuts ops o F H = reads E cuts ops o F2 H:=by
 unfold SameOps at h
 cases ho : o.op with
 | build t parts => simp only [reads,ho]
 | buildSlice t n parts =>
  rw [ho] at h
  have h2 : (parts.toList.all fun p => allF (evalV F p.2)) = parts.toList.all fun p => allF (evalV F2 p.2):=by
   rw [Bool.eq_iff_iff,List.all_eq_true,List.all_eq_true]
   exact forall₂_congr fun p hp => by rw [h p.2 (by simp only [Op.operands,List.mem_toArray,List.mem_map];exact ⟨p,by simpa using hp,rfl⟩)]
  simp only [reads,ho,h2]
 | slice t x lo hi mx =>
  rw [ho] at h
  have h0 : evalV F x = evalV F2 x:=h x (by simp [Op.operands])
  simp only [reads,ho,h0]
 | call c =>
  rw [ho] at h
  have h1:=evals_congr (F:=F) (F2:=F2) (l:=c.args.toList) (fun x hx => h x (by simp only [Op.operands,Call.operands,Array.mem_append];exact .inr (by simpa using hx)))
  simp only [reads,ho,h1]
 | _ =>
  rw [ho] at h
  try simp only [Op.operands,List.mem_toArray,List.mem_cons,List.not_mem_nil,or_false,forall_eq_or_imp,forall_eq] at h
  simp only [reads,ho,h]
theorem touch_congr (h : SameOps o F F2) : touch E cuts o F H = touch E cuts o F2 H:=by
 unfold SameOps at h
 cases ho : o.op with
 | slice t x lo hi mx =>
  rw [ho] at h
  have h0 : evalV F x = evalV F2 x:=h x (by simp [Op.operands])
  simp only [touch,ho,h0]
 | buildSlice t n parts =>
  rw [ho] at h
  have h2:=parts2_congr (F:=F) (F2:=F2) (l:=parts.toList) (fun x hx => h x (by simpa [Op.operands] using hx))
  simp only [touch,ho,h2]
 | makeMap t r => cases r <;> simp only [touch,ho]
 | call c =>
  rw [ho] at h
  have h1:=evals_congr (F:=F) (F2:=F2) (l:=c.args.toList) (fun x hx => h x (by simp only [Op.operands,Call.operands,Array.mem_append];exact .inr (by simpa using hx)))
  have h2 : ∀ f,c.callee = .value f → evalV F f = evalV F2 f:=fun f e => h f (by simp [Op.operands,Call.operands,e])
  simp only [touch,ho,h1]
  cases hc : c.callee with
  | value f => cases f <;> simp only [h2 _ hc]
  | builtin b => cases b <;> rfl
  | invoke r i => rfl
 | _ =>
  rw [ho] at h
  try simp only [Op.operands,List.mem_toArray,List.mem_cons,List.not_mem_nil,or_false,forall_eq_or_imp,forall_eq] at h
  simp only [touch,ho,h]
theorem quick_congr (h : SameOps o F F2) : quick ops o F = quick ops o F2:=by
 unfold SameOps at h
 cases ho : o.op with
 | buildSlice t n parts =>
  rw [ho] at h
  have h2 : (parts.toList.all fun p => allF (evalV F p.2)) = parts.toList.all fun p => allF (evalV F2 p.2):=by
   rw [Bool.eq_iff_iff,List.all_eq_true,List.all_eq_true]
   exact forall₂_congr fun p hp => by rw [h p.2 (by simp only [Op.operands,List.mem_toArray,List.mem_map];exact ⟨p,by simpa using hp,rfl⟩)]
  simp only [quick,ho,h2]
 | makeMap t r => cases r <;> simp only [quick,ho]
 | _ => simp only [quick,ho]
inductive Guard (ops : Array Oper) (o : Oper) (F : Fr) : Bool → Prop
 | none (h : o.guard = none) : Guard ops o F true
 | skipped (j : Nat) (want : Bool) (h : o.guard = some (j,want)) (d : Nat) (hd : dstAt ops j = some d) (hv : getF F d = .tup []) : Guard ops o F false
 | at_ (j : Nat) (want : Bool) (h : o.guard = some (j,want)) (d : Nat) (hd : dstAt ops j = some d) (b : Bool) (hv : getF F d = .f (.bool b)) (r : Bool) (hr : r = (b == want)) : Guard ops o F r
theorem set_getF {d : Nat} {v : V} (h : getF F d = v) (hv : v ≠ .un) : F.set d v = F:=by
 unfold getF at h
 split at h
 ·rename_i u hu
  subst h
  apply List.ext_getElem?
  intro i
  rw [List.getElem?_set]
  split
  ·rename_i e
   subst e
   rw [hu]
   split
   ·rfl
   ·rename_i hn
    rw [List.getElem?_eq_none (by omega)] at hu
    cases hu
  ·rfl
 ·exact absurd h.symm hv
theorem guardK_some {run skip : Fr → R} (h : guardK ops o F run skip = some res) : (Guard ops o F true ∧ run F = some res) ∨ (Guard ops o F false ∧ skip F = some res):=by
 unfold guardK at h
 split at h
 ·rename_i hg;exact .inl ⟨.none hg,h⟩
 ·rename_i j want hg
  split at h
  ·cases h
  ·rename_i d hd
   have hd' : dstAt ops j = some d:=hd
   split at h
   ·rename_i hv;exact .inr ⟨.skipped j want hg d hd' hv,h⟩
   ·unfold condV at h
    split at h
    ·rename_i x hx
     rcases fCond_some h with ⟨rfl,h⟩ | ⟨rfl,h⟩
     ·rw [set_getF hx (by simp)] at h
      cases want
      ·exact .inr ⟨.at_ j _ hg d hd' true hx false rfl,h⟩
      ·exact .inl ⟨.at_ j _ hg d hd' true hx true rfl,h⟩
     ·rw [set_getF hx (by simp)] at h
      cases want
      ·exact .inl ⟨.at_ j _ hg d hd' false hx true rfl,h⟩
      ·exact .inr ⟨.at_ j _ hg d hd' false hx false rfl,h⟩
    ·cases h
theorem Guard.congr {r : Bool} (g : Guard ops o F r) (h : ∀ j want d,o.guard = some (j,want) → dstAt ops j = some d → getF F d = getF F2 d) : Guard ops o F2 r:=by
 cases g with
 | none hg => exact .none hg
 | skipped j want hg d hd hv => exact .skipped j want hg d hd ((h j want d hg hd).symm.trans hv)
 | at_ j want hg d hd b hv r hr => exact .at_ j want hg d hd b ((h j want d hg hd).symm.trans hv) r hr
structure Apart (ops : Array Oper) (x y : Oper) : Prop where
 l : ∀ d,x.dst = some d → d ∉ looks ops y
 r : ∀ d,y.dst = some d → d ∉ looks ops x
 ne : ∀ d,x.dst = some d → y.dst ≠ some d
theorem apartB_spec {x y : Oper} (h : apartB ops x y = true) : Apart ops x y:=by
 refine ⟨fun d hd => ?_,fun d hd => ?_,fun d hd => ?_⟩ <;> simp [apartB,hd] at h
 ·exact h.1.1
 ·exact h.2
 ·intro he
  have:=h.1.2
  rw [he] at this
  simp at this
theorem getF_put {d : Option Nat} {v : V} {t : Nat} (h : d ≠ some t) : getF (putV F d v) t = getF F t:=by
 cases d with
 | none => rfl
 | some d =>
  unfold getF putV
  simp only
  rw [List.getElem?_set_ne (fun e => h (by rw [e]))]
theorem eval_put {d : Option Nat} {v : V} {x : Operand} (h : ∀ t,tmpOf x = some t → d ≠ some t) : evalV (putV F d v) x = evalV F x:=by
 cases x with
 | tmp t => exact getF_put (h t rfl)
 | _ => rfl
theorem SameOps.put {d : Option Nat} {v : V} (h : ∀ e,d = some e → e ∉ looks ops o) : SameOps o (putV F d v) F:=by
 intro x hx
 refine eval_put fun t ht hd => h t hd ?_
 unfold looks
 exact List.mem_append.2 (.inl (List.mem_filterMap.2 ⟨x,by simpa using hx,ht⟩))
theorem Guard.put {d : Option Nat} {v : V} {r : Bool} (h : ∀ e,d = some e → e ∉ looks ops o) (g : Guard ops o (putV F d v) r) : Guard ops o F r:=by
 refine g.congr fun j want e hg hd => getF_put fun hd' => h e hd' ?_
 unfold looks
 exact List.mem_append.2 (.inr (by rw [hg];simp [hd]))
theorem Guard.put' {d : Option Nat} {v : V} {r : Bool} (h : ∀ e,d = some e → e ∉ looks ops o) (g : Guard ops o F r) : Guard ops o (putV F d v) r:=by
 refine g.congr fun j want e hg hd => (getF_put fun hd' => h e hd' ?_).symm
 unfold looks
 exact List.mem_append.2 (.inr (by rw [hg];simp [hd]))
theorem put_comm {d e : Option Nat} {v u : V} (h : ∀ t,d = some t → e ≠ some t) : putV (putV F d v) e u = putV (putV F e u) d v:=by
 cases d with
 | none => rfl
 | some d =>
  cases e with
  | none => rfl
  | some e => exact List.set_comm _ _ (fun he => h d rfl (by rw [he]))
end
end Go.Proofs.YtpffkpaiihcffaaGreatDoor.VM
