/- Operands, temporaries, freezing. -/
import Derived.Test.YtpffkpaiihcffaaGreatDoorRel
set_option linter.unusedVariables false
namespace Go.Proofs.YtpffkpaiihcffaaGreatDoor.VM
open Go Go.RowKit
theorem onNil_some {x : FV} {a : R} {r : FV} (h : onNil x a = some r) : x = .nilS ∧ a = some r:=by
 unfold onNil at h
 split at h
 ·exact ⟨rfl,h⟩
 ·cases h
def KFact (P : Program) (ty : Nat → TyI) (t : Nat) : TyK → Prop
 | .other => True
 | .bool => P.underlying t = some .bool
 | .int k => P.underlying t = some (.int k)
 | .str => P.underlying t = some .string
 | .slice e => P.underlying t = some (.slice e) ∧ (ty e).known = true ∧ 0 < (ty e).size ∧ 0 < (ty e).bytes
 | .struct fs => ∃ fields : Array Field,P.underlying t = some (.struct fields) ∧ fields.toList.map (fun f => (f.offset,(ty f.type).size,(ty f.type).isAgg)) = fs ∧
   (∀ f ∈ fields.toList,(ty f.type).known = true ∧ 0 < (ty f.type).size ∧ f.name ≠ "_") ∧ P.stoodInHeld t = false
 | .array n e => P.underlying t = some (.array n e) ∧ (ty e).known = true
 | .map k e => P.underlying t = some (.map k e) ∧ (ty e).known = true
 | .ptr e => P.underlying t = some (.pointer e)
 | .func => ∃ ps rs v,P.underlying t = some (.func ps rs v)
def ScalarTy (P : Program) (t : Nat) : SK → Prop
 | .bool => P.underlying t = some .bool
 | .int => ∃ k,P.underlying t = some (.int k)
 | .str => P.underlying t = some .string
def SkFact (P : Program) (t : Nat) : Bool → List SK → Prop
 | false,sk => ∃ s,sk = [s] ∧ ScalarTy P t s
 | true,sk => ∃ fields : Array Field,P.underlying t = some (.struct fields) ∧ P.stoodInHeld t = false ∧ P.eqGuardType P.depth t = false ∧ fields.toList.length = sk.length ∧
   ∀ (i : Nat) f s,fields.toList[i]? = some f → sk[i]? = some s → f.offset = i ∧ f.name ≠ "_" ∧ ScalarTy P f.type s
structure TyFact (P : Program) (ty : Nat → TyI) (t : Nat) : Prop where
 k : KFact P ty t (ty t).k
 info : (ty t).known = true → ∃ i z,P.info? t = some i ∧ i.size = (ty t).size ∧ i.bytes = (ty t).bytes ∧ i.zero = some z ∧ z.cells.toList.map constF = (ty t).zero ∧ z.cells.size = (ty t).size ∧
  z.cells.all (·.oneCell') = true ∧ ((ty t).isAgg = false → z.cells = #[z]) ∧ ((ty t).isAgg = true → ∃ cs,z = .agg cs)
 sk : (ty t).sk ≠ [] → SkFact P t (ty t).isAgg (ty t).sk
def TyOk (P : Program) (ty : Nat → TyI) : Prop:=∀ t,TyFact P ty t
theorem tyOk_of {P : Program} {l : List (Nat × TyI)} (h : ∀ p ∈ l,TyFact P (tyOf l) p.1) : TyOk P (tyOf l):=by
 intro t
 have key : ∀ m : List (Nat × TyI),(∃ p ∈ m,p.1 = t ∧ tyOf m t = p.2) ∨ tyOf m t = .none:=by
  intro m
  induction m with
  | nil => exact .inr rfl
  | cons p m ih =>
   cases hb : Nat.beq p.1 t with
   | true => exact .inl ⟨p,by simp,Nat.eq_of_beq_eq_true hb,by simp [tyOf,hb]⟩
   | false =>
    have : tyOf (p :: m) t = tyOf m t:=by simp [tyOf,hb]
    rw [this]
    rcases ih with ⟨q,h1,h2⟩ | h1
    ·exact .inl ⟨q,by simp [h1],h2⟩
    ·exact .inr h1
 rcases key l with ⟨p,h1,rfl,_⟩ | h1
 ·exact h p h1
 ·exact ⟨by rw [h1];trivial,by rw [h1];(intro h;cases h),by rw [h1];intro h;exact absurd rfl h⟩
section
variable {P : Program} {ty : Nat → TyI} {t : Nat} (w : World)
theorem run_isAgg (h : TyFact P ty t) (hk : (ty t).known = true) : (isAgg t).run P w = .ok (ty t).isAgg w:=by
 have k:=h.k
 unfold TyI.isAgg
 unfold TyI.known at hk
 cases hh : (ty t).k with
 | other => rw [hh] at hk;cases hk
 | bool => rw [hh] at k;simp only [KFact] at k;simp [Go.isAgg,underlying,k]
 | int q => rw [hh] at k;simp only [KFact] at k;simp [Go.isAgg,underlying,k]
 | str => rw [hh] at k;simp only [KFact] at k;simp [Go.isAgg,underlying,k]
 | slice e => rw [hh] at k;simp [Go.isAgg,underlying,k.1]
 | struct fs => rw [hh] at k;obtain ⟨fields,k,_⟩:=k;simp [Go.isAgg,underlying,k]
 | array n e => rw [hh] at k;simp [Go.isAgg,underlying,k.1]
 | map q e => rw [hh] at k;simp [Go.isAgg,underlying,k.1]
 | ptr e => rw [hh] at k;simp only [KFact] at k;simp [Go.isAgg,underlying,k]
 | func => rw [hh] at k;obtain ⟨ps,rs,v,k⟩:=k;simp [Go.isAgg,underlying,k]
theorem run_sizeOf (h : TyFact P ty t) (hk : (ty t).known = true) : (Go.sizeOf t).run P w = .ok (ty t).size w:=by
 obtain ⟨i,z,h1,h2,_⟩:=h.info hk
 simp [Go.sizeOf,typeInfo,h1,h2]
theorem run_zeroValue (h : TyFact P ty t) (hk : (ty t).known = true) : ∃ z,(zeroValue t).run P w = .ok z w ∧ z.cells.toList.map constF = (ty t).zero ∧ z.cells.size = (ty t).size ∧ z.cells.all (·.oneCell') = true ∧ ((ty t).isAgg = false → z.cells = #[z]) ∧ ((ty t).isAgg = true → ∃ cs,z = .agg cs):=by
 obtain ⟨i,z,h1,h2,h3,h4,h5,h6⟩:=h.info hk
 exact ⟨z,by simp [zeroValue,typeInfo,h1,h4],h5,h6⟩
end
theorem constF_rel (w : World) (A : Nat → Prop) (c : Value) : FR w A (constF c) c:=by
 unfold constF
 split
 ·exact .bool _
 ·exact .int _ _
 ·exact .str _
 ·exact .nilS _
 ·exact .cst _
theorem one_eq (c : Value) : one c = c.oneCell':=by cases c <;> rfl
section
variable {L : List (Fr × Act)} {w : World} {A : Nat → Prop} {β : LocOf} {H : Hp}
theorem constV_rel (c : Value) : VR w A β H (constV c) c:=by
 cases c with
 | agg cs =>
  simp only [constV]
  split
  ·rename_i hone
   have : cs = cs.toList.toArray:=by simp
   rw [this]
   refine .agg _ _ (by simp) fun k x c h1 h2 => ?_
   rw [List.getElem?_map,h2] at h1
   simp at h1
   subst h1
   exact .f _ _ (constF_rel w A c) (one_eq c ▸ List.all_eq_true.1 hone c (List.mem_of_getElem? h2))
  ·exact .un _
 | tuple vs => exact .un _
 | _ => exact .f _ _ (constF_rel w A _) rfl
theorem getF_rel {F : Fr} {a : Act} (h : FRel L w A β H F a) (t : Nat) : VR w A β H (getF F t) (a.tmps.getD t undef):=by
 unfold getF
 split
 ·rename_i v hv
  exact h.at_ t v hv
 ·exact .un _
theorem evalV_rel {F : Fr} {a : Act} (h : FRel L w A β H F a) (o : Operand) : VR w A β H (evalV F o) (a.eval o):=by
 cases o with
 | tmp t => exact getF_rel h t
 | const c => exact constV_rel c
 | global g =>
  show VR w A β H (globV g) _
  unfold globV
  cases hg : globOf globT g with
  | none => exact .un _
  | some cs => exact .f _ _ (h.gl g cs hg) rfl
 | func g => exact .func g [] [] rfl (fun k x c h1 => by simp at h1)
theorem put_eval (a : Act) (d : Option Nat) (u : Value) (t : Nat) : (a.put d u).tmps.getD t undef = if d = some t ∧ t < a.tmps.size then u else a.tmps.getD t undef:=by
 cases d with
 | none => simp [Act.put]
 | some d =>
  simp only [Act.put,Array.getD_eq_getD_getElem?,Array.getElem?_setIfInBounds]
  by_cases h : d = t
  ·subst h
   by_cases hl : d < a.tmps.size
   ·simp [hl]
   ·simp [hl]
  ·simp [h]
theorem put_size (a : Act) (d : Option Nat) (u : Value) : (a.put d u).tmps.size = a.tmps.size:=by cases d <;> simp [Act.put]
theorem put_defers (a : Act) (d : Option Nat) (u : Value) : (a.put d u).defers = a.defers:=by cases d <;> rfl
theorem FRel.put {F : Fr} {a : Act} (h : FRel L w A β H F a) (d : Option Nat) {v : V} {u : Value} (hv : VR w A β H v u) : FRel L w A β H (putV F d v) (a.put d u):=by
 refine ⟨?_,?_,by rw [put_defers];exact h.defers,h.sus,h.gl⟩
 ·rw [put_size,h.size]
  cases d <;> simp [putV]
 ·intro t x hx
  rw [put_eval]
  cases d with
  | none => rw [if_neg (fun h => by cases h.1)];exact h.at_ t x hx
  | some d =>
   simp only [putV] at hx
   rw [List.getElem?_set] at hx
   by_cases e : d = t
   ·subst e
    simp only [if_true] at hx
    split at hx
    ·rename_i hl
     cases hx
     rw [if_pos ⟨rfl,by rw [h.size];exact hl⟩]
     exact hv
    ·cases hx
   ·rw [if_neg e] at hx
    rw [if_neg (by simp;intro h;exact absurd h e)]
    exact h.at_ t x hx
theorem FRel.mono {w' : World} {A' : Nat → Prop} {β' : LocOf} {H' : Hp} {F : Fr} {a : Act} (e : FExt w A w' A') (he : HExt β H β' H') (h : FRel L w A β H F a) : FRel L w' A' β' H' F a :=
 ⟨h.size,fun t v hv => (h.at_ t v hv).mono e he,h.defers,fun p hp t v hv => (h.sus p hp t v hv).mono e he,h.gl.mono e⟩
theorem FRel.learn {F : Fr} {a : Act} (h : FRel L w A β H F a) (t : Nat) {v : V} (hv : VR w A β H v (a.tmps.getD t undef)) : FRel L w A β H (F.set t v) a:=by
 refine ⟨by rw [List.length_set];exact h.size,?_,h.defers,h.sus,h.gl⟩
 intro s x hx
 rw [List.getElem?_set] at hx
 by_cases e : t = s
 ·subst e
  simp only [if_true] at hx
  split at hx
  ·cases hx;exact hv
  ·cases hx
 ·rw [if_neg e] at hx
  exact h.at_ s x hx
end
section
variable {w w' : World} {A A' : Nat → Prop} {β β' : LocOf} {H H' : Hp}
theorem RowsAt.mono {b o s : Nat} {rows : List (List FV)} (e : FExt w A w' A') (hb : w'.heap[b]? = w.heap[b]?) (h : RowsAt w A b o s rows) : RowsAt w' A' b o s rows :=
 ⟨h.1,fun i r k x h1 h2 => let ⟨u,h3,h4,h5⟩:=h.2 i r k x h1 h2;⟨u,by rw [World.cell?_of_block (w:=w) (a:=⟨b,o + (i * s + k),none⟩) hb];exact h3,h4,h5.mono e⟩⟩
theorem EntriesR.mono {es : List (FV × FV)} {es' : List MapEntry} (e : FExt w A w' A') (h : EntriesR w A es es') : EntriesR w' A' es es' :=
 ⟨h.1,fun i p q h1 h2 => let ⟨a,b⟩:=h.2 i p q h1 h2;⟨a.mono e,b.mono e⟩⟩
def Loc.block : Loc → Option Nat | .at b _ _ _ => some b | _ => none
theorem BRel.mono {l : Loc} {k : Blk} (e : FExt w A w' A') (he : HExt β H β' H') (hs : w.heap.size ≤ w'.heap.size) (hb : ∀ b,l.block = some b → w'.heap[b]? = w.heap[b]?) (h : BRel w A β H l k) : BRel w' A' β' H' l k:=by
 cases k with
 | dead => trivial
 | free => exact h
 | own s rows =>
  rcases h with h | ⟨b,o,cap,rfl,h1,h2,h3,h4,c,ty,h5,h6⟩
  ·exact .inl h
  ·have q:=hb b rfl
   exact .inr ⟨b,o,cap,rfl,h1,h2,h3,h4.mono e q,c,ty,by rw [q];exact h5,h6⟩
 | old rows =>
  rcases h with h | ⟨b,o,s,cap,rfl,h1,h2,h3,h4⟩
  ·exact .inl h
  ·exact .inr ⟨b,o,s,cap,rfl,h1,h2,h3.mono e (hb b rfl),Nat.lt_of_lt_of_le h4 hs⟩
 | fz rows =>
  rcases h with h | ⟨b,o,s,cap,rfl,h1,h2,h3,h4⟩
  ·exact .inl h
  ·exact .inr ⟨b,o,s,cap,rfl,h1,h2,h3.mono e (hb b rfl),e.sub _ h4⟩
 | box cs =>
  obtain ⟨b,s,rfl,h1,⟨c,ty,h2,h3⟩,h4⟩:=h
  have q:=hb b rfl
  refine ⟨b,s,rfl,h1,⟨c,ty,by rw [q];exact h2,h3⟩,fun k v hv => ?_⟩
  obtain ⟨u,h5,h6,h7,h8⟩:=h4 k v hv
  exact ⟨u,by rw [World.cell?_of_block (w:=w) (a:=⟨b,k,none⟩) q];exact h5,h6,h7,h8.mono e he⟩
 | fzb cs =>
  obtain ⟨b,s,rfl,h1,h4⟩:=h
  have q:=hb b rfl
  refine ⟨b,s,rfl,e.sub _ h1,fun k v hv => ?_⟩
  obtain ⟨u,h5,h6,h8⟩:=h4 k v hv
  exact ⟨u,by rw [World.cell?_of_block (w:=w) (a:=⟨b,k,none⟩) q];exact h5,h6,h8.mono e⟩
 | map ag es =>
  obtain ⟨b,es',ck,rfl,h1,h2,h3⟩:=h
  exact ⟨b,es',ck,rfl,by rw [hb b rfl];exact h1,h2.mono e,h3⟩
 | sit s pos =>
  obtain ⟨b,t,rfl,h1,h2⟩:=h
  exact ⟨b,t,rfl,by rw [hb b rfl];exact h1,h2.mono e⟩
end
section
variable {L : List (Fr × Act)} {B0 : Nat} {G T : Nat → Prop} {w : World} {A : Nat → Prop} {β : LocOf} {H : Hp}
theorem get_set_hp (H : Hp) (id id' : Nat) (k : Blk) : (H.set id k)[id']? = if id = id' ∧ id < H.length then some k else H[id']?:=by
 rw [List.getElem?_set]
 by_cases e : id = id'
 ·subst e
  by_cases hl : id < H.length
  ·simp [hl]
  ·simp [hl]
 ·simp [e]
theorem rowsF_rowsOf {id : Nat} {r : List (List FV)} (h : rowsF H id = some r) : rowsOf H id = some r:=by
 unfold rowsF at h
 unfold rowsOf
 split at h <;> simp_all
theorem cellsF_some {cs : List V} {xs : List FV} (h : cellsF cs = some xs) : cs = xs.map V.f:=by
 unfold cellsF at h
 split at h
 ·rename_i hall
  cases h
  rw [List.map_map]
  refine (List.map_id cs).symm.trans (List.map_congr_left fun v hv => ?_)
  have:=List.all_eq_true.1 hall v hv
  cases v <;> simp_all [isF,unF]
 ·cases h
theorem freeze_one {id : Nat} {k k' : Blk} (h : HRel B0 G T w A β H) (hk : H[id]? = some k) (ha : k.alive = true) (ha' : k'.alive = false) (hd : k ≠ .dead) (hro : ∀ r,rowsOf H id = some r → rowsOf (H.set id k') id = some r)
  (hlt : ∀ b,(β id).block = some b → b < w.heap.size)
  (hb : ∀ A',FExt w A w A' → (∀ b,(β id).block = some b → A' b) → BRel w A' β (H.set id k') (β id) k') :
  FExt w A w (fun b => A b ∨ (β id).block = some b) ∧ HExt β H β (H.set id k') ∧ HRel B0 G T w (fun b => A b ∨ (β id).block = some b) β (H.set id k'):=by
 have hl : id < H.length:=(List.getElem?_eq_some_iff.1 hk).1
 have fe : FExt w A w (fun b => A b ∨ (β id).block = some b):=⟨fun b hb => .inl hb,fun _ _ => rfl⟩
 have he : HExt β H β (H.set id k'):=by
  refine ⟨fun _ _ _ => rfl,by simp,fun i r hr => .inl ⟨r,?_,rfl⟩,fun i hd' => ?_⟩
  ·by_cases e : id = i
   ·subst e;exact hro r hr
   ·unfold rowsOf at hr ⊢
    rw [get_set_hp,if_neg (fun q => e q.1)];exact hr
  ·rw [get_set_hp]
   by_cases e : id = i
   ·subst e;rw [hk] at hd';cases hd';exact absurd rfl hd
   ·rw [if_neg (fun q => e q.1)];exact hd'
 refine ⟨fe,he,⟨?_,?_,?_,?_,?_,h.gt,h.base,fun b hb => .inl (h.top b hb)⟩⟩
 ·intro i x hi
  rw [get_set_hp] at hi
  by_cases e : id = i
  ·subst e
   rw [if_pos ⟨rfl,hl⟩] at hi;cases hi
   exact hb _ fe (fun b hb => .inr hb)
  ·rw [if_neg (fun q => e q.1)] at hi
   exact (h.blk i x hi).mono fe he (Nat.le_refl _) (fun _ _ => rfl)
 ·intro i i' b o s cap o' s' cap' x x' hi hi' hax hax' hl1 hl2
  rw [get_set_hp] at hi hi'
  by_cases e : id = i
  ·subst e;rw [if_pos ⟨rfl,hl⟩] at hi;cases hi;rw [ha'] at hax;cases hax
  ·by_cases e' : id = i'
   ·subst e';rw [if_pos ⟨rfl,hl⟩] at hi';cases hi';rw [ha'] at hax';cases hax'
   ·rw [if_neg (fun q => e q.1)] at hi;rw [if_neg (fun q => e' q.1)] at hi'
    exact h.inj i i' b o s cap o' s' cap' x x' hi hi' hax hax' hl1 hl2
 ·intro i b o s cap x hi hax hl1
  rw [get_set_hp] at hi
  by_cases e : id = i
  ·subst e;rw [if_pos ⟨rfl,hl⟩] at hi;cases hi;rw [ha'] at hax;cases hax
  ·rw [if_neg (fun q => e q.1)] at hi
   refine ⟨(h.ours i b o s cap x hi hax hl1).1,?_⟩
   rintro (hA | hB)
   ·exact (h.ours i b o s cap x hi hax hl1).2 hA
   ·cases hq : β id with
    | no => rw [hq] at hB;cases hB
    | nil => rw [hq] at hB;cases hB
    | «at» b2 o2 s2 cap2 =>
     rw [hq] at hB;cases hB
     exact e (h.inj id i b o2 s2 cap2 o s cap _ _ hk hi ha hax hq hl1)
 ·rintro b (hA | hB)
  ·exact h.lt b hA
  ·exact hlt b hB
 ·rintro b (hA | hB) hlow
  ·exact h.low b hA hlow
  ·cases hq : β id with
   | no => rw [hq] at hB;cases hB
   | nil => rw [hq] at hB;cases hB
   | «at» b2 o2 s2 cap2 =>
    rw [hq] at hB;cases hB
    rcases (h.ours id b o2 s2 cap2 _ hk ha hq).1 with h1 | h1
    ·omega
    ·exact .inr h1
theorem BRel.block_lt {l : Loc} {k : Blk} (h : BRel w A β H l k) (hlt : ∀ b,A b → b < w.heap.size) (hd : k ≠ .dead) : ∀ b,l.block = some b → b < w.heap.size:=by
 intro b hb
 cases k with
 | dead => exact absurd rfl hd
 | free => cases h;cases hb
 | own s rows =>
  rcases h with ⟨rfl,_⟩ | ⟨b2,o,cap,rfl,_,_,_,_,c,e,h5,_⟩
  ·cases hb
  ·cases hb;exact (Array.getElem?_eq_some_iff.1 h5).1
 | old rows =>
  rcases h with ⟨rfl,_⟩ | ⟨b2,o,s,cap,rfl,_,_,_,h4⟩
  ·cases hb
  ·cases hb;exact h4
 | fz rows =>
  rcases h with ⟨rfl,_⟩ | ⟨b2,o,s,cap,rfl,_,_,_,h4⟩
  ·cases hb
  ·cases hb;exact hlt _ h4
 | box cs => obtain ⟨b2,s,rfl,_,⟨c,e,h5,_⟩,_⟩:=h;cases hb;exact (Array.getElem?_eq_some_iff.1 h5).1
 | fzb cs => obtain ⟨b2,s,rfl,h4,_⟩:=h;cases hb;exact hlt _ h4
 | map ag es => obtain ⟨b2,es',ck,rfl,h5,_⟩:=h;cases hb;exact (Array.getElem?_eq_some_iff.1 h5).1
 | sit s pos => obtain ⟨b2,t,rfl,h5,_⟩:=h;cases hb;exact (Array.getElem?_eq_some_iff.1 h5).1
def InA (β : LocOf) (H : Hp) (A : Nat → Prop) (id : Nat) : Prop:=(rowsF H id ≠ none ∨ boxF H id ≠ none) → ∀ b,(β id).block = some b → A b
theorem markOne_rel (h : HRel B0 G T w A β H) (id : Nat) : ∃ A',FExt w A w A' ∧ HExt β H β (markOne H id) ∧ HRel B0 G T w A' β (markOne H id) ∧ InA β H A' id:=by
 unfold markOne
 split
 ·rename_i s0 rows hk
  have hb:=h.blk id _ hk
  obtain ⟨fe,he,hp⟩:=freeze_one (k':=.fz rows) h hk rfl rfl (by simp) (by
    intro r hr
    unfold rowsOf at hr ⊢
    rw [hk] at hr
    rw [get_set_hp,if_pos ⟨rfl,(List.getElem?_eq_some_iff.1 hk).1⟩];exact hr) (hb.block_lt h.lt (by simp)) (by
    intro A' fe hA
    rcases hb with hb | ⟨b,o,cap,hl,h1,h2,h3,h4,c,ty,h5,h6⟩
    ·exact .inl hb
    ·exact .inr ⟨b,o,_,cap,hl,h1,h2,h4.mono fe rfl,hA b (by rw [hl];rfl)⟩)
  exact ⟨_,fe,he,hp,fun _ b hb => .inr hb⟩
 ·rename_i cs hk
  have hb:=h.blk id _ hk
  cases hc : cellsF cs with
  | none =>
   refine ⟨A,FExt.refl w A,HExt.refl β H,h,?_⟩
   rintro (hr | hr)
   ·unfold rowsF at hr;rw [hk] at hr;exact absurd rfl hr
   ·unfold boxF at hr;rw [hk] at hr;exact absurd hc hr
  | some xs =>
   have hcs:=cellsF_some hc
   obtain ⟨fe,he,hp⟩:=freeze_one (k':=.fzb xs) h hk rfl rfl (by simp) (by
     intro r hr
     unfold rowsOf at hr
     rw [hk] at hr;cases hr) (hb.block_lt h.lt (by simp)) (by
     intro A' fe hA
     obtain ⟨b,s,hl,h1,h2,h3⟩:=hb
     refine ⟨b,s,hl,hA b (by rw [hl];rfl),fun k x hx => ?_⟩
     obtain ⟨u,q1,q2,_,q3⟩:=h3 k (.f x) (by rw [hcs,List.getElem?_map,hx];rfl)
     cases q3 with
     | f _ _ q3 _ => exact ⟨u,q1,q2,q3.mono fe⟩)
   exact ⟨_,fe,he,hp,fun _ b hb => .inr hb⟩
 ·rename_i hno1 hno2
  refine ⟨A,FExt.refl w A,HExt.refl β H,h,?_⟩
  intro hr b hb
  rcases hr with hr | hr
  ·unfold rowsF at hr
   split at hr
   ·rename_i s0 q hq;exact absurd hq (hno1 s0 q)
   ·rename_i rows hk
    rcases h.blk id _ hk with ⟨h1,_⟩ | ⟨b2,o,s,cap,hl,h1,h2,h3,h4⟩
    ·rw [h1] at hb;cases hb
    ·rw [hl] at hb;cases hb;exact h4
   ·exact absurd rfl hr
  ·unfold boxF at hr
   split at hr
   ·rename_i q hq;exact absurd hq (hno2 q)
   ·rename_i rows hk
    obtain ⟨b2,s,hl,h4,_⟩:=h.blk id _ hk
    rw [hl] at hb;cases hb;exact h4
   ·exact absurd rfl hr
theorem markOne_get (H : Hp) (i id : Nat) : (rowsF (markOne H i) id = rowsF H id) ∧ boxF (markOne H i) id = boxF H id:=by
 unfold markOne
 split
 ·rename_i s0 r hr
  have hl:=(List.getElem?_eq_some_iff.1 hr).1
  unfold rowsF boxF
  rw [get_set_hp]
  by_cases e : i = id
  ·subst e;rw [if_pos ⟨rfl,hl⟩,hr];exact ⟨rfl,rfl⟩
  ·rw [if_neg (fun h => e h.1)];exact ⟨rfl,rfl⟩
 ·rename_i cs hr
  have hl:=(List.getElem?_eq_some_iff.1 hr).1
  cases hc : cellsF cs with
  | none => exact ⟨rfl,rfl⟩
  | some xs =>
   simp only
   unfold rowsF boxF
   rw [get_set_hp]
   by_cases e : i = id
   ·subst e;rw [if_pos ⟨rfl,hl⟩,hr];exact ⟨rfl,hc.symm⟩
   ·rw [if_neg (fun h => e h.1)];exact ⟨rfl,rfl⟩
 ·exact ⟨rfl,rfl⟩
theorem marksL_rel (ids : List Nat) : ∀ {A : Nat → Prop} {H : Hp},HRel B0 G T w A β H → ∃ A',FExt w A w A' ∧ HExt β H β (ids.foldl markOne H) ∧ HRel B0 G T w A' β (ids.foldl markOne H) ∧
  (∀ id ∈ ids,InA β H A' id):=by
 induction ids with
 | nil => intro A H h;exact ⟨A,FExt.refl w A,HExt.refl β H,h,fun id hi => by cases hi⟩
 | cons i ids ih =>
  intro A H h
  obtain ⟨A1,e1,x1,h1,f1⟩:=markOne_rel h i
  obtain ⟨A2,e2,x2,h2,f2⟩:=ih h1
  refine ⟨A2,e1.trans e2,x1.trans x2,h2,?_⟩
  intro id hi hr b hb
  rcases List.mem_cons.1 hi with rfl | hi
  ·exact e2.sub _ (f1 hr b hb)
  ·exact f2 id hi (by rw [(markOne_get H i id).1,(markOne_get H i id).2];exact hr) b hb
theorem arr_of_rows {b o s cap : Nat} {rows : List (List FV)} (hs : 0 < s) (hc : rows.length ≤ cap) (h : RowsAt w A b o s rows) {A' : Nat → Prop} (e : FExt w A w A') (hA : A' b) : FR w A' (.arr rows) (.slice (some ⟨b,o,none⟩) rows.length cap):=by
 have hadd : ∀ n,(⟨b,o,none⟩ : Addr).add n = ⟨b,o + n,none⟩:=fun n => by unfold Addr.add;split <;> simp_all
 have hcell : ∀ i k,i < rows.length → k < s → ∃ u,w.cell? ⟨b,o + (i * s + k),none⟩ = some u ∧ u.oneCell' = true ∧ ∀ r x,rows[i]? = some r → r[k]? = some x → FR w A' x u:=by
  intro i k hi hk
  have hr : rows[i]? = some rows[i]:=List.getElem?_eq_getElem hi
  have hl : rows[i].length = s:=h.1 _ (List.getElem_mem hi)
  obtain ⟨u,h1,h1',h2⟩:=h.2 i rows[i] k rows[i][k] hr (List.getElem?_eq_getElem (by omega))
  refine ⟨u,h1,h1',fun r x hr' hx => ?_⟩
  rw [hr] at hr';cases hr'
  rw [List.getElem?_eq_getElem (by omega)] at hx;cases hx
  exact h2.mono e
 refine .arr rows ⟨b,o,none⟩ cap s (fun i k => (w.cell? ⟨b,o + (i * s + k),none⟩).getD undef) hs hc h.1 hA ?_ ?_ ?_
 ·intro i k hi hk
  obtain ⟨u,h1,_⟩:=hcell i k hi hk
  rw [hadd,h1];rfl
 ·intro i k hi hk
  obtain ⟨u,h1,h2,_⟩:=hcell i k hi hk
  show ((w.cell? ⟨b,o + (i * s + k),none⟩).getD undef).oneCell' = true
  rw [h1];exact h2
 ·intro i r k x hr hx
  have hi : i < rows.length:=(List.getElem?_eq_some_iff.1 hr).1
  have hk : k < s:=by have:=h.1 r (List.mem_of_getElem? hr);have:=(List.getElem?_eq_some_iff.1 hx).1;omega
  obtain ⟨u,h1,_,h2⟩:=hcell i k hi hk
  rw [h1]
  exact h2 r x hr hx
theorem eptr_of_cells {b : Nat} {cells : List FV} (h : ∀ (k : Nat) x,cells[k]? = some x → ∃ u,w.cell? ⟨b,k,none⟩ = some u ∧ u.oneCell' = true ∧ FR w A x u) {A' : Nat → Prop} (e : FExt w A w A') (hA : A' b) (off : Nat) :
  FR w A' (.eptr cells off) (.pointer (some ⟨b,off,none⟩)):=by
 have hadd : ∀ n,(⟨b,0,none⟩ : Addr).add n = ⟨b,n,none⟩:=fun n => by unfold Addr.add;split <;> simp_all
 have:=FR.eptr (w:=w) (A:=A') cells ⟨b,0,none⟩ off (fun k => (w.cell? ⟨b,k,none⟩).getD undef) hA (fun k hk => by
   obtain ⟨u,h1,_⟩:=h k _ (List.getElem?_eq_getElem hk)
   rw [hadd,h1];rfl) (fun k hk => by
   obtain ⟨u,h1,h2,_⟩:=h k _ (List.getElem?_eq_getElem hk)
   show ((w.cell? ⟨b,k,none⟩).getD undef).oneCell' = true
   rw [h1];exact h2) (fun k x hx => by
   obtain ⟨u,h1,_,h2⟩:=h k x hx
   show FR w A' x ((w.cell? ⟨b,k,none⟩).getD undef)
   rw [h1];exact h2.mono e)
 rwa [hadd] at this
theorem VR.one {v : V} {c : Value} (h : VR w A β H v c) (h1 : isOne v = true) : c.oneCell' = true:=by
 cases h <;> first | rfl | assumption | cases h1
theorem ones {cells : List V} {vs : List Value} (hl : cells.length = vs.length) (hx : ∀ (k : Nat) x c,cells[k]? = some x → vs[k]? = some c → VR w A β H x c) (h : cells.all isOne = true) : ∀ c ∈ vs,c.oneCell' = true:=by
 intro c hc
 obtain ⟨k,hk,rfl⟩:=List.mem_iff_getElem.1 hc
 have hk' : k < cells.length:=by omega
 exact (hx k _ _ (List.getElem?_eq_getElem hk') (List.getElem?_eq_getElem hk)).one (List.all_eq_true.1 h _ (List.getElem_mem hk'))
theorem frzV_rel (h : HRel B0 G T w A β H) {A' : Nat → Prop} (e : FExt w A w A') : ∀ (n : Nat) {v : V} {c : Value},VR w A β H v c →
  (∀ id ∈ idsV n v,InA β H A' id) → FR w A' (frzV n H v) c:=by
 intro n
 induction n with
 | zero => intro v c _ _;exact .undef c
 | succ n ih =>
  intro v c hv hf
  have lst : ∀ (cells : List V) (vs : List Value),cells.length = vs.length → (∀ (k : Nat) x c,cells[k]? = some x → vs[k]? = some c → VR w A β H x c) →
    (∀ id ∈ cells.flatMap (idsV n),InA β H A' id) →
    (cells.map (frzV n H)).length = vs.length ∧ ∀ (k : Nat) x c,(cells.map (frzV n H))[k]? = some x → vs[k]? = some c → FR w A' x c:=by
   intro cells vs hl hx hq
   refine ⟨by simpa using hl,fun k x c h1 h2 => ?_⟩
   rw [List.getElem?_map] at h1
   cases hc : cells[k]? with
   | none => rw [hc] at h1;cases h1
   | some y =>
    rw [hc] at h1
    simp at h1
    subst h1
    exact ih (hx k y c hc h2) fun id hi => hq id (List.mem_flatMap.2 ⟨y,List.mem_of_getElem? hc,hi⟩)
  cases hv with
  | un c => exact .undef _
  | f x c h h1 => exact h.mono e
  | refNil id a hb hr =>
   simp only [frzV]
   split
   ·rename_i r hr'
    have:=rowsF_rowsOf hr'
    rw [hr] at this;cases this
    exact .arrNil _ _
   ·exact .undef _
  | refAt id b o s cap n hb rows hr hn =>
   simp only [frzV]
   split
   ·rename_i r hr'
    have hr2:=rowsF_rowsOf hr'
    rw [hr] at hr2;cases hr2
    have hA:=hf id (by simp [idsV]) (.inl (by rw [hr'];simp)) b (by rw [hb];rfl)
    subst hn
    unfold rowsF at hr'
    split at hr'
    ·rename_i s0 q hq
     cases hr'
     rcases h.blk id _ hq with ⟨h0,_⟩ | ⟨b2,o2,cap2,hl,h1,h2,h3,h4,_⟩
     ·rw [hb] at h0;cases h0
     ·rw [hb] at hl;cases hl;exact arr_of_rows h1 h2 h4 e hA
    ·rename_i q hq
     cases hr'
     rcases h.blk id _ hq with ⟨h0,_⟩ | ⟨b2,o2,s2,cap2,hl,h1,h2,h3,h4⟩
     ·rw [hb] at h0;cases h0
     ·rw [hb] at hl;cases hl;exact arr_of_rows h1 h2 h3 e hA
    ·cases hr'
   ·exact .undef _
  | refDead id c hd h1 =>
   simp only [frzV,rowsF,hd]
   exact .undef _
  | ptr id i off b o s cap hb hlt =>
   simp only [frzV]
   split
   ·split
    ·rename_i cs hcs
     have hA:=hf id (by simp [idsV]) (.inr (by rw [hcs];simp)) b (by rw [hb];rfl)
     unfold boxF at hcs
     split at hcs
     ·rename_i q hq
      have hq2:=cellsF_some hcs
      obtain ⟨b2,s2,hl,h1,h2,h3⟩:=h.blk id _ hq
      rw [hb] at hl;cases hl
      have:=eptr_of_cells (w:=w) (A:=A) (b:=b) (cells:=cs) (fun k x hx => by
       obtain ⟨u,q1,q2,_,q3⟩:=h3 k (.f x) (by rw [hq2,List.getElem?_map,hx];rfl)
       cases q3 with
       | f _ _ q3 _ => exact ⟨u,q1,q2,q3⟩) e hA off
      simpa using this
     ·rename_i q hq
      cases hcs
      obtain ⟨b2,s2,hl,h1,h3⟩:=h.blk id _ hq
      rw [hb] at hl;cases hl
      have:=eptr_of_cells (w:=w) (A:=A) (b:=b) (cells:=cs) h3 e hA off
      simpa using this
     ·cases hcs
    ·exact .undef _
   ·exact .undef _
  | ptrDead id i off c hd h1 =>
   simp only [frzV,boxF,hd]
   split <;> exact .undef _
  | mp => exact .undef _
  | it => exact .undef _
  | agg cells vs hl hx =>
   obtain ⟨q1,q2⟩:=lst cells vs hl hx (by simpa [idsV] using hf)
   simp only [frzV]
   split
   ·rename_i hone
    exact .agg _ vs q1 (ones hl hx hone) q2
   ·exact .undef _
  | tup cells vs hl hx =>
   obtain ⟨q1,q2⟩:=lst cells vs hl hx (by simpa [idsV] using hf)
   simp only [frzV]
   exact .tup _ vs q1 q2
  | func g cells vs hl hx =>
   obtain ⟨q1,q2⟩:=lst cells vs hl hx (by simpa [idsV] using hf)
   simp only [frzV]
   split
   ·rename_i hone
    exact .func g _ vs q1 (ones hl hx hone) q2
   ·exact .undef _
theorem drop_rel {f : Nat → Blk → Blk} {H' : Hp} (hf : ∀ i k,f i k = k ∨ (f i k = .dead ∧ ((∃ r,k = .old r) ∨ k = .free))) (hlen : H'.length = H.length) (hg : ∀ i : Nat,H'[i]? = (H[i]?).map (f i)) (h : HRel B0 G T w A β H) : HExt β H β H' ∧ HRel B0 G T w A β H':=by
 have hal : ∀ (i : Nat) k,H'[i]? = some k → (H[i]? = some k) ∨ k = .dead:=by
  intro i k hk
  rw [hg] at hk
  cases hq : H[i]? with
  | none => rw [hq] at hk;cases hk
  | some q =>
   rw [hq] at hk
   cases hk
   rcases hf i q with h1 | ⟨h1,_⟩
   ·exact .inl (by rw [h1])
   ·exact .inr h1
 have he : HExt β H β H':=by
  refine ⟨fun _ _ _ => rfl,by omega,fun i r hr => ?_,fun i hd => ?_⟩
  ·cases hq : H[i]? with
   | none => unfold rowsOf at hr;rw [hq] at hr;cases hr
   | some q =>
    rcases hf i q with h1 | ⟨h1,_⟩
    ·refine .inl ⟨r,?_,rfl⟩
     unfold rowsOf at hr ⊢
     rw [hg,hq,Option.map_some,h1];rw [hq] at hr;exact hr
    ·exact .inr (by rw [hg,hq,Option.map_some,h1])
  ·rw [hg,hd,Option.map_some]
   rcases hf i .dead with h1 | ⟨h1,_⟩ <;> rw [h1]
 refine ⟨he,⟨?_,?_,?_,h.lt,h.low,h.gt,h.base,h.top⟩⟩
 ·intro i k hk
  rcases hal i k hk with h1 | rfl
  ·exact (h.blk i k h1).mono (FExt.refl w A) he (Nat.le_refl _) fun _ _ => rfl
  ·trivial
 ·intro i i' b o s cap o' s' cap' k k' hi hi' ha ha' hl hl'
  rcases hal i k hi with h1 | rfl
  ·rcases hal i' k' hi' with h2 | rfl
   ·exact h.inj i i' b o s cap o' s' cap' k k' h1 h2 ha ha' hl hl'
   ·cases ha'
  ·cases ha
 ·intro i b o s cap k hi ha hl
  rcases hal i k hi with h1 | rfl
  ·exact h.ours i b o s cap k h1 ha hl
  ·cases ha
theorem settle_rel (h : HRel B0 G T w A β H) : HExt β H β (settle H) ∧ HRel B0 G T w A β (settle H) :=
 drop_rel (f:=fun _ => settleB) (fun _ k => by cases k <;> simp [settleB]) (by simp [settle]) (fun i => by simp [settle]) h
theorem close_get (base : Nat) (H : Hp) (i : Nat) : (close base H)[i]? = (H[i]?).map fun b => match Nat.ble base i with | true => closeB b | false => settleB b:=by
 unfold close
 rw [List.getElem?_map,List.getElem?_zipIdx]
 cases H[i]? with
 | none => rfl
 | some b => simp only [Option.map_some,Nat.zero_add];cases Nat.ble base i <;> rfl
theorem close_rel (base : Nat) (h : HRel B0 G T w A β H) : HExt β H β (close base H) ∧ HRel B0 G T w A β (close base H) :=
 drop_rel (f:=fun i b => match Nat.ble base i with | true => closeB b | false => settleB b) (fun i k => by cases k <;> cases Nat.ble base i <;> simp [closeB,settleB]) (by simp [close]) (close_get base H) h
end
end Go.Proofs.YtpffkpaiihcffaaGreatDoor.VM
