/- Calls that are handed rows of the caller's own. -/
import Derived.Test.YtpffkpaiihcffaaGreatDoorCallOps
set_option linter.unusedVariables false
set_option linter.unusedSimpArgs false
set_option linter.unusedSectionVars false
namespace Go.Proofs.YtpffkpaiihcffaaGreatDoor.VM
open Go Go.RowKit
section
variable {P : Program} {E : Env} {L : List (Fr × Act)} {B0 : Nat} {G T : Nat → Prop} {w0 w w' : World} {A A' A1 : Nat → Prop} {β : LocOf} {H H1 H2 : Hp} {F : Fr} {a : Act} {o : Oper}
variable {next : Act → World → Prop} {Q : Exit → Act → World → Prop} {res : FV} {call : Nat → List FV → Option FV}
theorem HRel.moved {gb : List Nat} (hp : HRel B0 G T w A1 β H1) (he : HExt β H1 β H2) (bw : Belowx (fun b => b ∈ gb) w.heap.size w w') (fe : FExt w A1 w' A') (hA : ∀ b,A' b → A1 b ∨ w.heap.size ≤ b ∨ b ∈ gb) (hlt : ∀ b,A' b → b < w'.heap.size) (hgb : ∀ b ∈ gb,(B0 ≤ b ∨ G b))
  (hk : ∀ (id : Nat) k,H2[id]? = some k → (H1[id]? = some k ∧ ∀ b,(β id).block = some b → k ≠ .dead → b ∉ gb) ∨ k = .dead ∨ (∃ s r s0 r0,k = .own s r ∧ H1[id]? = some (.own s0 r0) ∧ BRel w' A' β H2 (β id) (.own s r) ∧ ∀ b,(β id).block = some b → ¬ A' b)) : HRel B0 G T w' A' β H2:=by
 have alive1 : ∀ (id : Nat) k,H2[id]? = some k → k.alive = true → ∃ k1,H1[id]? = some k1 ∧ k1.alive = true:=by
  intro id k h1 h2
  rcases hk id k h1 with ⟨h3,_⟩ | rfl | ⟨s,r,s0,r0,rfl,h3,_⟩
  ·exact ⟨k,h3,h2⟩
  ·cases h2
  ·exact ⟨_,h3,rfl⟩
 refine ⟨?_,?_,?_,hlt,?_,hp.gt,Nat.le_trans hp.base bw.size,fun b hb => fe.sub b (hp.top b hb)⟩
 ·intro id k h1
  rcases hk id k h1 with ⟨h3,h4⟩ | rfl | ⟨s,r,s0,r0,rfl,h3,h4,_⟩
  ·by_cases hd : k = .dead
   ·subst hd;trivial
   ·have hb:=hp.blk id k h3
    refine hb.mono fe he bw.size fun b hb2 => bw.block b (hb.block_lt hp.lt hd b hb2) (h4 b hb2 hd)
  ·trivial
  ·exact h4
 ·intro id id' b o s cap o' s' cap' k k' h1 h2 h3 h4 h5 h6
  obtain ⟨k1,g1,g2⟩:=alive1 id k h1 h3
  obtain ⟨k2,g3,g4⟩:=alive1 id' k' h2 h4
  exact hp.inj id id' b o s cap o' s' cap' k1 k2 g1 g3 g2 g4 h5 h6
 ·intro id b o s cap k h1 h2 h3
  obtain ⟨k1,g1,g2⟩:=alive1 id k h1 h2
  obtain ⟨q1,q2⟩:=hp.ours id b o s cap k1 g1 g2 h3
  refine ⟨q1,fun hA' => ?_⟩
  rcases hk id k h1 with ⟨h4,h5⟩ | rfl | ⟨s',r,s0,r0,rfl,h4,h5,h6⟩
  ·have hd : k ≠ .dead:=by intro e;subst e;cases h2
   rcases hA b hA' with h7 | h7 | h7
   ·exact q2 h7
   ·have:=(hp.blk id k h4).block_lt hp.lt hd b (by rw [h3];rfl)
    omega
   ·exact h5 b (by rw [h3];rfl) hd h7
  ·cases h2
  ·exact h6 b (by rw [h3];rfl) hA'
 ·intro b hb hlow
  rcases hA b hb with h1 | h1 | h1
  ·exact hp.low b h1 hlow
  ·have:=hp.base
   omega
  ·rcases hgb b h1 with h2 | h2
   ·omega
   ·exact .inr h2
def MvF (β : LocOf) (H : Hp) (vs : List V) (cs : List Value) (q : Nat × Nat × Bool) : Prop :=
 (∃ id c r0,vs[q.1]? = some (.ref id) ∧ cs[q.1]? = some c ∧ H[id]? = some (.own q.2.1 r0) ∧ ((r0 = [] ∧ ∃ ad,c = .slice ad 0 0) ∨ ∃ b o cap,β id = .at b o q.2.1 cap ∧ c = .slice (some ⟨b,o,none⟩) r0.length cap ∧ 0 < cap)) ∨ vs[q.1]? = some (.f .nilS)
theorem putBack_rel {vs : List V} {cs : List Value} : ∀ (ls : List (Nat × Nat × Bool)) (rs : List FV) (ob : List Nat) (H : Hp),(∀ q ∈ ls,MvF β H vs cs q) → BackR w' A' cs ls rs ob → (moveIds ls vs).Nodup → putBack ls vs rs H = some H2 →
  HExt β H β H2 ∧ ∀ (id : Nat) k,H2[id]? = some k → (H[id]? = some k ∧ ((id ∉ moveIds ls vs) ∨ ∃ s,k = .own s [] ∧ ∃ q ∈ ls,∃ ad,vs[q.1]? = some (.ref id) ∧ cs[q.1]? = some (.slice ad 0 0))) ∨ k = .dead ∨ (∃ s r s0 r0,k = .own s r ∧ H[id]? = some (.own s0 r0) ∧ BRel w' A' β H2 (β id) (.own s r) ∧ ∀ b,(β id).block = some b → b ∈ ob)
 | [],rs,ob,H,hm,hb,hn,h => by
  simp only [putBack,Option.some.injEq] at h
  subst h
  exact ⟨HExt.refl _ _,fun id k hk => .inl ⟨hk,.inl (by simp [moveIds])⟩⟩
 | q :: ls,rs,ob,H,hm,hb,hn,h => by
  rcases hm q (by simp) with ⟨id,c,r0,h1,h2,h3,h4⟩ | h1
  ·have hids : moveIds (q :: ls) vs = id :: moveIds ls vs:=by simp [moveIds,h1]
   rw [hids] at hn
   obtain ⟨n1,n2⟩:=List.nodup_cons.1 hn
   have hl : id < H.length:=(List.getElem?_eq_some_iff.1 h3).1
   have keep : ∀ (k : Blk),∀ q' ∈ ls,MvF β (H.set id k) vs cs q':=by
    intro k q' hq'
    rcases hm q' (by simp [hq']) with ⟨id',c',r',g1,g2,g3,g4⟩ | g1
    ·have hne : id ≠ id':=by
      intro e
      refine n1 ?_
      rw [e]
      exact List.mem_filterMap.2 ⟨q',hq',by rw [g1]⟩
     exact .inl ⟨id',c',r',g1,g2,by rw [get_set_hp,if_neg (fun x => hne x.1)];exact g3,g4⟩
    ·exact .inr g1
   simp only [putBack,h1] at h
   unfold BackR at hb
   cases hq : q.2.2 with
   | false =>
    rw [hq] at h hb
    simp only at h hb
    obtain ⟨e1,e2⟩:=putBack_rel ls rs ob (H.set id .dead) (keep .dead) hb n2 h
    have he : HExt β H β (H.set id .dead):=by
     refine ⟨fun _ _ _ => rfl,by simp,fun i r hr => ?_,fun i hd => ?_⟩
     ·by_cases e : id = i
      ·subst e;exact .inr (by rw [get_set_hp,if_pos ⟨rfl,hl⟩])
      ·refine .inl ⟨r,?_,rfl⟩
       unfold rowsOf at hr ⊢
       rw [get_set_hp,if_neg (fun q => e q.1)];exact hr
     ·rw [get_set_hp]
      by_cases e : id = i
      ·subst e;rw [if_pos ⟨rfl,hl⟩]
      ·rw [if_neg (fun q => e q.1)];exact hd
    refine ⟨he.trans e1,fun i k hk => ?_⟩
    rcases e2 i k hk with ⟨g1,g2⟩ | rfl | ⟨s,r,s0,r0',rfl,g1,g2,g3⟩
    ·rw [get_set_hp] at g1
     by_cases e : id = i
     ·subst e;rw [if_pos ⟨rfl,hl⟩] at g1;cases g1;exact .inr (.inl rfl)
     ·rw [if_neg (fun q => e q.1)] at g1
      refine .inl ⟨g1,?_⟩
      rcases g2 with g2 | ⟨s,rfl,q',hq',ad,g3,g4⟩
      ·left;rw [hids];simp only [List.mem_cons,not_or];exact ⟨fun x => e x.symm,g2⟩
      ·exact .inr ⟨s,rfl,q',by simp [hq'],ad,g3,g4⟩
    ·exact .inr (.inl rfl)
    ·rw [get_set_hp] at g1
     by_cases e : id = i
     ·subst e;rw [if_pos ⟨rfl,hl⟩] at g1;cases g1
     ·rw [if_neg (fun q => e q.1)] at g1
      exact .inr (.inr ⟨s,r,s0,r0',rfl,g1,g2,g3⟩)
   | true =>
    rw [hq] at h hb
    simp only at h hb
    obtain ⟨r,rs',c',o1,o2,rfl,rfl,b3,b4,b5⟩:=hb
    rw [h2] at b3;cases b3
    simp only at h
    obtain ⟨e1,e2⟩:=putBack_rel ls rs' o2 (H.set id (.own q.2.1 r)) (keep _) b5 n2 h
    have hr : r.length = r0.length ∧ ((r = [] ∧ r0 = [] ∧ ∃ ad,c = .slice ad 0 0) ∨ (∀ H',BRel w' A' β H' (β id) (.own q.2.1 r)) ∧ ∀ b,(β id).block = some b → b ∈ o1):=by
     obtain ⟨rows,hrr,b4⟩:=b4
     cases hrr
     rcases h4 with ⟨rfl,ad,rfl⟩ | ⟨b,o,cap,hβ,rfl,hcap⟩
     ·rcases b4 with ⟨ad',hc,rfl,_⟩ | ⟨b,o,cap,hc,_⟩
      ·exact ⟨rfl,.inl ⟨rfl,rfl,ad,rfl⟩⟩
      ·simp only [Value.slice.injEq] at hc
       have : r = []:=List.eq_nil_of_length_eq_zero hc.2.1.symm
       subst this
       exact ⟨rfl,.inl ⟨rfl,rfl,ad,rfl⟩⟩
     ·rcases b4 with ⟨ad',hc,rfl,_⟩ | ⟨b',o',cap',hc,rfl,k3,k4,k5,k6,cc,ce,k7,k8⟩
      ·simp only [Value.slice.injEq] at hc
       omega
      ·simp only [Value.slice.injEq,Option.some.injEq,Addr.mk.injEq] at hc
       obtain ⟨⟨rfl,rfl,_⟩,hlen,rfl⟩:=hc
       refine ⟨hlen.symm,.inr ⟨fun H' => .inr ⟨b,o,cap,hβ,k3,k4,k5,k6,cc,ce,k7,k8⟩,fun b2 hb2 => ?_⟩⟩
       rw [hβ] at hb2;cases hb2;simp
    have he : HExt β H β (H.set id (.own q.2.1 r)):=HExt.set h3 (fun x hx => ⟨r,by unfold rowsOf;rw [get_set_hp,if_pos ⟨rfl,hl⟩],by
     have : x = r0:=by unfold rowsOf at hx;rw [h3] at hx;cases hx;rfl
     rw [this];exact hr.1⟩) (by simp)
    refine ⟨he.trans e1,fun i k hk => ?_⟩
    rcases e2 i k hk with ⟨g1,g2⟩ | rfl | ⟨s,r',s0,r0',rfl,g1,g2,g3⟩
    ·rw [get_set_hp] at g1
     by_cases e : id = i
     ·subst e
      rw [if_pos ⟨rfl,hl⟩] at g1;cases g1
      rcases hr.2 with ⟨rfl,rfl,ad,rfl⟩ | ⟨q1,q2⟩
      ·exact .inl ⟨h3,.inr ⟨_,rfl,q,by simp,ad,h1,h2⟩⟩
      ·exact .inr (.inr ⟨_,_,_,_,rfl,h3,q1 _,fun b hb => by simp [q2 b hb]⟩)
     ·rw [if_neg (fun q => e q.1)] at g1
      refine .inl ⟨g1,?_⟩
      rcases g2 with g2 | ⟨s,rfl,q',hq',ad,g3,g4⟩
      ·left;rw [hids];simp only [List.mem_cons,not_or];exact ⟨fun x => e x.symm,g2⟩
      ·exact .inr ⟨s,rfl,q',by simp [hq'],ad,g3,g4⟩
    ·exact .inr (.inl rfl)
    ·rw [get_set_hp] at g1
     by_cases e : id = i
     ·subst e
      rw [if_pos ⟨rfl,hl⟩] at g1;cases g1
      exact .inr (.inr ⟨s,r',_,_,rfl,h3,g2,fun b hb => by simp [g3 b hb]⟩)
     ·rw [if_neg (fun q => e q.1)] at g1
      exact .inr (.inr ⟨s,r',s0,r0',rfl,g1,g2,fun b hb => by simp [g3 b hb]⟩)
  ·have hids : moveIds (q :: ls) vs = moveIds ls vs:=by simp [moveIds,h1]
   rw [hids] at hn
   simp only [putBack,h1] at h
   unfold BackR at hb
   have fin : ∀ {rs' : List FV} {ob' : List Nat},(∀ b ∈ ob',b ∈ ob) → BackR w' A' cs ls rs' ob' → putBack ls vs rs' H = some H2 → HExt β H β H2 ∧ ∀ (id : Nat) k,H2[id]? = some k → (H[id]? = some k ∧ ((id ∉ moveIds (q :: ls) vs) ∨ ∃ s,k = .own s [] ∧ ∃ q' ∈ q :: ls,∃ ad,vs[q'.1]? = some (.ref id) ∧ cs[q'.1]? = some (.slice ad 0 0))) ∨ k = .dead ∨ (∃ s r s0 r0,k = .own s r ∧ H[id]? = some (.own s0 r0) ∧ BRel w' A' β H2 (β id) (.own s r) ∧ ∀ b,(β id).block = some b → b ∈ ob):=by
    intro rs' ob' hsub hb' h'
    obtain ⟨e1,e2⟩:=putBack_rel ls rs' ob' H (fun q' hq' => hm q' (by simp [hq'])) hb' hn h'
    refine ⟨e1,fun i k hk => ?_⟩
    rcases e2 i k hk with ⟨g1,g2⟩ | rfl | ⟨s,r',s0,r0',rfl,g1,g2,g3⟩
    ·refine .inl ⟨g1,?_⟩
     rcases g2 with g2 | ⟨s,rfl,q',hq',ad,g3,g4⟩
     ·left;rw [hids];exact g2
     ·exact .inr ⟨s,rfl,q',by simp [hq'],ad,g3,g4⟩
    ·exact .inr (.inl rfl)
    ·exact .inr (.inr ⟨s,r',s0,r0',rfl,g1,g2,fun b hb => hsub b (g3 b hb)⟩)
   cases hq : q.2.2 with
   | false =>
    rw [hq] at h hb
    exact fin (fun b hb => hb) hb h
   | true =>
    rw [hq] at h hb
    simp only at h hb
    obtain ⟨r,rs',c',o1,o2,rfl,rfl,b3,b4,b5⟩:=hb
    exact fin (fun b hb => by simp [hb]) b5 (by simpa using h)
theorem marks_keep (id : Nat) : ∀ (ids : List Nat) (H : Hp),id ∉ ids → (ids.foldl markOne H)[id]? = H[id]?
 | [],H,_ => rfl
 | i :: ids,H,h => by
  rw [List.foldl_cons,marks_keep id ids _ (fun hm => h (List.mem_cons_of_mem _ hm))]
  have hne : i ≠ id:=fun e => h (e ▸ List.mem_cons_self)
  unfold markOne
  split
  ·rw [get_set_hp,if_neg (fun q => hne q.1)]
  ·split
   ·rw [get_set_hp,if_neg (fun q => hne q.1)]
   ·rfl
  ·rfl
theorem putBackK_some {args : List V} {k : Hp → R} : ∀ (ls : List (Nat × Nat × Bool)) (zs : List FV) (H : Hp),putBackK ls args zs H k = some res → ∃ H2,putBack ls args zs H = some H2 ∧ k H2 = some res
 | [],zs,H,h => ⟨H,rfl,h⟩
 | q :: ls,zs,H,h => by
  simp only [putBackK] at h
  simp only [putBack]
  split at h
  ·cases hq : q.2.2 with
   | false => rw [hq] at h;exact putBackK_some ls zs _ h
   | true =>
    rw [hq] at h
    simp only at h
    split at h
    ·rename_i z zs
     obtain ⟨r,hr,h⟩:=bindO_some h
     have : z = .arr r:=by
      unfold arrRows at hr
      split at hr
      ·cases hr;rfl
      ·cases hr
     subst this
     exact putBackK_some ls zs _ h
    ·cases h
  ·cases hq : q.2.2 with
   | false => rw [hq] at h;exact putBackK_some ls zs _ h
   | true => rw [hq] at h;exact putBackK_some ls _ _ h
  ·cases h
theorem mark_old {id i : Nat} {r : List (List FV)} (h : (markOne H i)[id]? = some (.old r)) : H[id]? = some (.old r):=by
 unfold markOne at h
 split at h
 ·rw [get_set_hp] at h
  split at h
  ·cases h
  ·exact h
 ·split at h
  ·rw [get_set_hp] at h
   split at h
   ·cases h
   ·exact h
  ·exact h
 ·exact h
theorem marks_old {id : Nat} {r : List (List FV)} : ∀ (ids : List Nat) (H : Hp),(ids.foldl markOne H)[id]? = some (.old r) → H[id]? = some (.old r)
 | [],H,h => h
 | i :: ids,H,h => mark_old (marks_old ids _ h)
theorem settle_old {id : Nat} {r : List (List FV)} : (settle H)[id]? ≠ some (.old r):=by
 intro h
 simp only [settle,List.getElem?_map,Option.map_eq_some_iff] at h
 obtain ⟨b,_,h⟩:=h
 cases b <;> cases h
theorem mem_rest {ls : List (Nat × Nat × Bool)} {vs : List V} {i : Nat} {v : V} (h : vs[i]? = some v) (hi : i ∉ ls.map fun q => q.1) : v ∈ restV ls vs:=by
 unfold restV
 refine List.mem_map.2 ⟨(v,i),List.mem_filter.2 ⟨?_,?_⟩,rfl⟩
 ·refine List.mem_of_getElem? (i:=i) ?_
  rw [List.getElem?_zipIdx,h]
  simp
 ·simpa using hi
theorem backR_len {cs : List Value} : ∀ (ls : List (Nat × Nat × Bool)) (rs : List FV) (ob : List Nat) (n : Nat),BackR w A cs ls rs ob → rs.length = (backIds n ls).length
 | [],rs,ob,n,h => by rw [h.1];rfl
 | q :: ls,rs,ob,n,h => by
  unfold BackR at h
  unfold backIds
  cases hq : q.2.2 with
  | false => rw [hq] at h;exact backR_len ls rs ob (n + 1) h
  | true =>
   rw [hq] at h
   obtain ⟨r,rs',c,o1,o2,rfl,rfl,_,_,h5⟩:=h
   simp [backR_len ls rs' o2 (n + 1) h5]
theorem mv_rel {H0 : Hp} {vs : List V} {us : List Value} (hl : vs.length = us.length) (hv : ∀ (i : Nat) v u,vs[i]? = some v → us[i]? = some u → VR w A β H0 v u) (hp1 : HRel B0 G T w A1 β H1) : ∀ (ls : List (Nat × Nat × Bool)),moveOk H0 ls vs = true → (∀ id ∈ moveIds ls vs,H1[id]? = H0[id]?) → (moveIds ls vs).Nodup →
  ∃ gb,MoveR w A1 (vs.map (frz H0)) us ls gb ∧ gb.Nodup ∧ (∀ q ∈ ls,MvF β H1 vs us q) ∧ ∀ b ∈ gb,∃ id ∈ moveIds ls vs,∃ o s cap r,β id = .at b o s cap ∧ 0 < cap ∧ H1[id]? = some (.own s r)
 | [],_,_,_ => ⟨[],rfl,List.nodup_nil,by simp,by simp⟩
 | q :: ls,hm,hk,hn => by
  unfold moveOk at hm
  simp only [List.all_cons,Bool.and_eq_true] at hm
  obtain ⟨hm1,hm2⟩:=hm
  split at hm1
  ·rename_i id hq
   have hids : moveIds (q :: ls) vs = id :: moveIds ls vs:=by simp [moveIds,hq]
   rw [hids] at hk hn
   obtain ⟨n1,n2⟩:=List.nodup_cons.1 hn
   obtain ⟨gb,g1,g2,g3,g4⟩:=mv_rel hl hv hp1 ls hm2 (fun id' h' => hk id' (by simp [h'])) n2
   split at hm1
   ·rename_i s0 r h0
    have hs:=Nat.eq_of_beq_eq_true hm1
    subst hs
    have hi : q.1 < us.length:=by
     rw [← hl]
     exact (List.getElem?_eq_some_iff.1 hq).1
    have hu : us[q.1]? = some us[q.1]:=List.getElem?_eq_getElem hi
    have hvr:=hv q.1 _ _ hq hu
    generalize us[q.1] = c at hu hvr
    have h1 : H1[id]? = some (.own q.2.1 r):=by rw [hk id (by simp)];exact h0
    have hx : (vs.map (frz H0))[q.1]? = some (.arr r):=by
     rw [List.getElem?_map,hq]
     simp [frz,frzV,rowsF,h0]
    have rest : ∀ {o1 : List Nat},OwnedV w A1 q.2.1 (.arr r) c o1 → (∀ b ∈ o1,o1 = [b] ∧ ∃ o s cap,β id = .at b o s cap ∧ 0 < cap ∧ s = q.2.1) → ((r = [] ∧ ∃ ad,c = .slice ad 0 0) ∨ ∃ b o cap,β id = .at b o q.2.1 cap ∧ c = .slice (some ⟨b,o,none⟩) r.length cap ∧ 0 < cap) →
      ∃ gb,MoveR w A1 (vs.map (frz H0)) us (q :: ls) gb ∧ gb.Nodup ∧ (∀ q' ∈ q :: ls,MvF β H1 vs us q') ∧ ∀ b ∈ gb,∃ id' ∈ moveIds (q :: ls) vs,∃ o s cap r,β id' = .at b o s cap ∧ 0 < cap ∧ H1[id']? = some (.own s r):=by
     intro o1 ho hb hf
     refine ⟨o1 ++ gb,⟨.arr r,c,r,o1,gb,rfl,hx,hu,.inl rfl,ho,g1⟩,?_,?_,?_⟩
     ·refine List.nodup_append.2 ⟨?_,g2,?_⟩
      ·match o1,hb with
       | [],_ => exact List.nodup_nil
       | [x],_ => simp
       | x :: y :: l,hb => have:=(hb x (by simp)).1;simp at this
      ·intro b hb1 b' hb2 e
       subst e
       obtain ⟨_,o,s,cap,k1,k2,_⟩:=hb b hb1
       obtain ⟨id',k3,o',s',cap',r',k4,k5,k6⟩:=g4 b hb2
       have:=hp1.inj id id' b o s cap o' s' cap' _ _ h1 k6 rfl rfl k1 k4
       exact n1 (this ▸ k3)
     ·intro q' hq'
      rcases List.mem_cons.1 hq' with rfl | hq'
      ·exact .inl ⟨id,c,r,hq,hu,h1,hf⟩
      ·exact g3 q' hq'
     ·intro b hb1
      rw [hids]
      rcases List.mem_append.1 hb1 with hb1 | hb1
      ·obtain ⟨_,o,s,cap,k1,k2,rfl⟩:=hb b hb1
       exact ⟨id,by simp,o,_,cap,r,k1,k2,h1⟩
      ·obtain ⟨id',k3,k4⟩:=g4 b hb1
       exact ⟨id',by simp [k3],k4⟩
    cases hvr with
    | refDead _ _ hd => rw [h0] at hd;cases hd
    | refNil _ ad hb hr =>
     have : r = []:=by unfold rowsOf at hr;rw [h0] at hr;cases hr;rfl
     exact rest ⟨r,rfl,.inl ⟨ad,rfl,this,rfl⟩⟩ (by simp) (.inl ⟨this,ad,rfl⟩)
    | refAt _ b o sz cap n hb rows hr hn' =>
     have : rows = r:=by unfold rowsOf at hr;rw [h0] at hr;cases hr;rfl
     subst this;subst hn'
     rcases hp1.blk id _ h1 with ⟨h5,_⟩ | ⟨b2,o2,cap2,h3,h4,h5,h6,h7,cc,ce,h8,h9⟩
     ·rw [hb] at h5;cases h5
     rw [hb] at h3;cases h3
     by_cases hc : cap = 0
     ·subst hc
      have : rows = []:=List.eq_nil_of_length_eq_zero (by omega)
      subst this
      exact rest ⟨[],rfl,.inl ⟨some ⟨b,o,none⟩,rfl,rfl,rfl⟩⟩ (by simp) (.inl ⟨rfl,some ⟨b,o,none⟩,rfl⟩)
     ·exact rest ⟨rows,rfl,.inr ⟨b,o,cap,rfl,rfl,h4,h5,h6,h7,cc,ce,h8,h9⟩⟩ (fun b' hb' => by simp at hb';subst hb';exact ⟨rfl,o,_,cap,hb,by omega,rfl⟩) (.inr ⟨b,o,cap,hb,rfl,by omega⟩)
   ·cases hm1
  ·rename_i hq
   have hids : moveIds (q :: ls) vs = moveIds ls vs:=by simp [moveIds,hq]
   rw [hids] at hk hn ⊢
   obtain ⟨gb,g1,g2,g3,g4⟩:=mv_rel hl hv hp1 ls hm2 hk hn
   have hi : q.1 < us.length:=by
    rw [← hl]
    exact (List.getElem?_eq_some_iff.1 hq).1
   have hu : us[q.1]? = some us[q.1]:=List.getElem?_eq_getElem hi
   obtain ⟨hfr,_⟩:=(hv q.1 _ _ hq hu).f'
   refine ⟨gb,⟨.nilS,us[q.1],[],[],gb,rfl,by rw [List.getElem?_map,hq];rfl,hu,.inr ⟨rfl,rfl⟩,?_,g1⟩,g2,fun q' hq' => ?_,g4⟩
   ·generalize us[q.1] = c at hfr
    cases hfr with
    | nilS ad => exact ⟨[],rfl,.inl ⟨ad,rfl,rfl,rfl⟩⟩
   ·rcases List.mem_cons.1 hq' with rfl | hq'
    ·exact .inr hq
    ·exact g3 q' hq'
  ·cases hm1
theorem moves_ok (ok : EnvOk P E) (spec : CallSpec P E call) {c : Call} {fo : Operand} {g nid : Nat} {fn : Func} {ls : List (Nat × Nat × Bool)} {own : List (Nat × Nat × Nat)} {caps : List V} {k : V → Hp → R} (ho : o.op = .call c) (hc : c.callee = .value fo) (hfo : evalV F fo = .func g caps) (hm : E.mode g = .move ls own) (hg : E.fn g = some fn)
  (h : moveK E call ls own fn nid g (c.args.toList.map (evalV F) ++ caps) (settle H) k = some res) (st : St L B0 G T w0 F H a w A β) (hn : Nxt L B0 G T w0 F a o next res k) : o.wp P a w next Q:=by
 have hfv:=hfo ▸ st.ev fo
 generalize hfc : a.eval fo = fc at hfv
 cases hfv with
 | func _ _ us hl hcap =>
  have hargs : ∀ (i : Nat) v u,(c.args.toList.map (evalV F) ++ caps)[i]? = some v → (c.args.toList.map a.eval ++ us)[i]? = some u → VR w A β H v u:=by
   intro i v u hv hu
   rw [List.getElem?_append] at hv hu
   simp only [List.length_map] at hv hu
   by_cases hi : i < c.args.toList.length
   ·rw [if_pos hi,List.getElem?_map] at hv hu
    rw [List.getElem?_eq_getElem hi] at hv hu
    cases hv;cases hu
    exact st.ev _
   ·rw [if_neg hi] at hv hu
    exact hcap _ v u hv hu
  have hlen : (c.args.toList.map (evalV F) ++ caps).length = (c.args.toList.map a.eval ++ us).length:=by simp [hl]
  generalize hvs : c.args.toList.map (evalV F) ++ caps = vs at *
  generalize hus : c.args.toList.map a.eval ++ us = us0 at *
  obtain ⟨he0,hp0⟩:=settle_rel st.hp
  have hargs0 : ∀ (i : Nat) v u,vs[i]? = some v → us0[i]? = some u → VR w A β (settle H) v u:=fun i v u h1 h2 => (hargs i v u h1 h2).mono (FExt.refl w A) he0
  unfold moveK at h
  obtain ⟨hcond,h⟩:=gB_some h
  simp only [Bool.and_eq_true] at hcond
  obtain ⟨⟨⟨⟨hfit,hmo⟩,hlive⟩,hnd⟩,hdis⟩:=hcond
  obtain ⟨x,hx,h⟩:=bindO_some h
  obtain ⟨A1,fe1,he1,hp1,hin⟩:=marksAll_rel hp0 (restV ls vs)
  have hsame : ∀ id ∈ moveIds ls vs,((restV ls vs).foldl marks (settle H))[id]? = (settle H)[id]?:=by
   intro id hid
   rw [marksAll_eq]
   refine marks_keep id _ _ fun hmem => ?_
   have:=List.all_eq_true.1 hdis id hid
   simp [List.contains_iff_mem,hmem] at this
  have hnd' : (moveIds ls vs).Nodup:=by
   have key : ∀ {l : List Nat},nodupB l = true → l.Nodup:=by
    intro l
    induction l with
    | nil => intro _;exact List.nodup_nil
    | cons x l ih =>
     intro h
     simp only [nodupB,Bool.and_eq_true,Bool.not_eq_true'] at h
     exact List.nodup_cons.2 ⟨fun hm => by have:=h.1;simp [hm] at this,ih h.2⟩
   exact key hnd
  obtain ⟨gb,m1,m2,m3,m4⟩:=mv_rel (H1:=(restV ls vs).foldl marks (settle H)) hlen hargs0 hp1 ls hmo hsame hnd'
  have hours : ∀ b ∈ gb,(B0 ≤ b ∨ G b) ∧ ¬ A1 b:=by
   intro b hb
   obtain ⟨id,_,o',s,cap,r,k1,_,k3⟩:=m4 b hb
   exact hp1.ours id b o' s cap _ k3 rfl k1
  have hsz : ∀ b ∈ gb,b < w.heap.size:=by
   intro b hb
   obtain ⟨id,_,o',s,cap,r,k1,_,k3⟩:=m4 b hb
   exact (hp1.blk id _ k3).block_lt hp1.lt (by simp) b (by rw [k1];rfl)
  obtain ⟨hfl,hff⟩:=fitsAll_get hfit
  have hspec:=spec.move g _ x ls own fn hm hg hx us0 w A1 gb hp1.lt (fun b hb => ⟨hsz b hb,(hours b hb).2⟩) m2 ⟨by rw [List.length_map];exact hfl,by rw [List.length_map];exact hlen,st.fr.gl.mono fe1,fun i t y u hi ht hy hu => by
   rw [List.getElem?_map] at hy
   cases hv : vs[i]? with
   | none => rw [hv] at hy;cases hy
   | some v =>
    rw [hv] at hy;cases hy
    have hvr:=hargs0 i v u hv hu
    exact ⟨frz_rel hp0 fe1 hvr (fun id hid => hin v (mem_rest hv hi) id hid),fits_one (hff i t v ht hv).2 hvr⟩,m1⟩
  refine upon_enter (by rw [← hus];exact run_enter ok ho hc hfc hg) hspec fun e w' he => ?_
  obtain ⟨v,rfl,A',rus,ys,rs,obs,ob,q1,q2,q3,q4,rfl,rfl,q5,q6,q7,q8,q9⟩:=he
  refine ⟨_,rfl,?_⟩
  have hnb:=backR_len ls rs ob 0 q7
  have h2:=resultsOf_eq (by rw [List.length_append,q5,hnb]) h
  rw [List.drop_left' q5,List.take_left' q5] at h2
  obtain ⟨H2,hpb,h2⟩:=putBackK_some _ _ _ h2
  obtain ⟨he2,hk2⟩:=putBack_rel ls rs ob _ m3 q7 hnd' hpb
  have hk3 : ∀ (id : Nat) k,H2[id]? = some k → (((restV ls vs).foldl marks (settle H))[id]? = some k ∧ ∀ b,(β id).block = some b → k ≠ .dead → b ∉ gb) ∨ k = .dead ∨ (∃ s r s0 r0,k = .own s r ∧ ((restV ls vs).foldl marks (settle H))[id]? = some (.own s0 r0) ∧ BRel w' A' β H2 (β id) (.own s r) ∧ ∀ b,(β id).block = some b → ¬ A' b):=by
   intro id kb hkb
   rcases hk2 id kb hkb with ⟨g1,g2⟩ | g1 | ⟨s,r,s0,r0,rfl,g1,g2,g3⟩
   ·refine .inl ⟨g1,fun b hb hd hmem => ?_⟩
    obtain ⟨id',n1,o',s',cap',r',n2,n3,n4⟩:=m4 b hmem
    have hβ : ∃ o s cap,β id = .at b o s cap:=by
     cases hq : β id with
     | no => rw [hq] at hb;cases hb
     | nil => rw [hq] at hb;cases hb
     | «at» b1 o1 s1 c1 => rw [hq] at hb;cases hb;exact ⟨o1,s1,c1,rfl⟩
    obtain ⟨o1,s1,c1,hβ⟩:=hβ
    have notA:=(hours b hmem).2
    have al : kb.alive = true → False:=by
     intro ha
     have e:=hp1.inj id id' b o1 s1 c1 o' s' cap' _ _ g1 n4 ha rfl hβ n2
     subst e
     rcases g2 with g2 | ⟨s,rfl,q,hq,ad,g3,g4⟩
     ·exact g2 n1
     ·have hvr:=hargs0 q.1 _ _ g3 g4
      have hH0 : (settle H)[id]? = some (.own s []):=by rw [← hsame id n1];exact g1
      cases hvr with
      | refDead _ _ hd2 => rw [hH0] at hd2;cases hd2
      | refNil _ _ hb2 _ => rw [n2] at hb2;cases hb2
      | refAt _ b2 o2 s2 cap2 n hb2 rows hr hn2 =>
       rw [n2] at hb2;cases hb2
       omega
    cases kb with
    | dead => exact hd rfl
    | free => have:=hp1.blk id _ g1;simp only [BRel] at this;rw [hβ] at this;cases this
    | own => exact al rfl
    | box => exact al rfl
    | map => exact al rfl
    | sit => exact al rfl
    | old r0 =>
     rw [marksAll_eq] at g1
     exact settle_old (marks_old _ _ g1)
    | fz r0 =>
     rcases hp1.blk id _ g1 with ⟨h0,_⟩ | ⟨b2,o2,s2,cap2,h3,_,_,_,h7⟩
     ·rw [hβ] at h0;cases h0
     ·rw [hβ] at h3;cases h3;exact notA h7
    | fzb r0 =>
     obtain ⟨b2,s2,h3,h7,_⟩:=hp1.blk id _ g1
     rw [hβ] at h3;cases h3;exact notA h7
   ·exact .inr (.inl g1)
   ·exact .inr (.inr ⟨s,r,s0,r0,rfl,g1,g2,fun b hb => (q9 b (List.mem_append_right _ (g3 b hb))).2⟩)
  have hp2:=hp1.moved he2 q4 q1 q2 q3 (fun b hb => (hours b hb).1) hk3
  have hbel : Belowx G B0 w0 w':=st.below.trans ⟨q4.os,q4.tape,q4.output,q4.size,fun i hi hg2 => q4.block i (Nat.lt_of_lt_of_le hi st.hp.base) fun hmem => by
   rcases (hours i hmem).1 with h1 | h1
   ·omega
   ·exact hg2 h1⟩
  have st2 : St L B0 G T w0 F H2 a w' A' β:=⟨st.fr.mono (fe1.trans q1) (he0.trans (he1.trans he2)),hp2,hbel⟩
  obtain ⟨d1,d2,d3⟩:=nodup_app q8
  obtain ⟨vs',H',β',r1,r2,r3,r4,r5⟩:=backK_rel (k:=fun vs H => k (packV vs) H) 0 nid _ ys rus _ β [] obs (by rw [q5];simp) q6 st2 (by
   intro b hb id k4 hk4 ha4 hl4
   rcases hk2 id k4 hk4 with ⟨g1,g2⟩ | rfl | ⟨s,r,s0,r0,rfl,g1,g2,g3⟩
   ·rcases (q9 b (List.mem_append_left _ hb)).1 with h5 | h5
    ·have:=(hp1.blk id k4 g1).block_lt hp1.lt (by intro e;subst e;cases ha4) b hl4
     omega
    ·rcases hk3 id k4 hk4 with ⟨_,g4⟩ | rfl | ⟨s,r,s0,r0,rfl,_,_,g6⟩
     ·exact g4 b hl4 (by intro e;subst e;cases ha4) h5
     ·cases ha4
     ·rcases hk2 id _ hk4 with ⟨g7,g8⟩ | g7 | ⟨s2,r2,s3,r3,g7,_,_,g9⟩
      ·obtain ⟨id',n1,o',s',cap',r',n2,n3,n4⟩:=m4 b h5
       have hβ : ∃ o s cap,β id = .at b o s cap:=by
        cases hq : β id with
        | no => rw [hq] at hl4;cases hl4
        | nil => rw [hq] at hl4;cases hl4
        | «at» b1 o1 s1 c1 => rw [hq] at hl4;cases hl4;exact ⟨o1,s1,c1,rfl⟩
       obtain ⟨o1,s1,c1,hβ⟩:=hβ
       have e:=hp1.inj id id' b o1 s1 c1 o' s' cap' _ _ g7 n4 rfl rfl hβ n2
       subst e
       rcases g8 with g8 | ⟨s5,e5,q,hq,ad,g3,g4⟩
       ·exact g8 n1
       ·have hvr:=hargs0 q.1 _ _ g3 g4
        have hH0:=hsame id n1
        rw [g7] at hH0
        cases hvr with
        | refDead _ _ hd2 => rw [hd2] at hH0;cases hH0
        | refNil _ _ hb2 _ => rw [n2] at hb2;cases hb2
        | refAt _ b2 o2 s2 cap2 n hb2 rows hr hn2 =>
         rw [n2] at hb2;cases hb2
         omega
      ·cases g7
      ·exact d3 b (g9 b hl4) hb
   ·cases ha4
   ·exact d3 b (g3 b hl4) hb) (fun b hb => ⟨by
   rcases (q9 b (List.mem_append_left _ hb)).1 with h5 | h5
   ·exact .inl (Nat.le_trans st.hp.base h5)
   ·exact (hours b h5).1,(q9 b (List.mem_append_left _ hb)).2⟩) d1 h2
  exact hn _ _ _ _ _ _ (by simpa using r1) (pack_rel r4 r5) r2
end
end Go.Proofs.YtpffkpaiihcffaaGreatDoor.VM
