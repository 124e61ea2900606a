/- Operations, continued: literals, fields, indices, plain builtins. -/
import Derived.Test.YtpffkpaiihcffaaGreatDoorOps5
set_option linter.unusedVariables false
set_option linter.unusedSimpArgs false
set_option linter.unusedSectionVars false
namespace Go.Proofs.YtpffkpaiihcffaaGreatDoor.VM
open Go Go.RowKit
section
variable {P : Program} {E : Env} {L : List (Fr × Act)} {B0 : Nat} {G T : Nat → Prop} {w0 w w' : World} {A : Nat → Prop} {β : LocOf} {H : Hp} {F : Fr} {a : Act} {o : Oper}
variable {next : Act → World → Prop} {Q : Exit → Act → World → Prop} {res : FV}
theorem rowsLit_some {e : Nat} : ∀ (L : List (Nat × V)) (i : Nat) (r : List (List FV)),rowsLit E H e i L = some r → r.length = L.length ∧
  ∀ (j : Nat) p,L[j]? = some p → p.1 = i + j ∧ ∃ cs,cellsV (E.ty e).isAgg p.2 = some cs ∧ cs.length = (E.ty e).size ∧ r[j]? = some (cs.map (frzC H))
 | [],i,r,h => by cases h;exact ⟨rfl,fun j p hp => by simp at hp⟩
 | (j0,v) :: L,i,r,h => by
  simp only [rowsLit] at h
  split at h
  ·rename_i hij
   split at h
   ·rename_i vs hvs
    split at h
    ·rename_i hlen
     split at h
     ·rename_i r' hr'
      cases h
      obtain ⟨h1,h2⟩:=rowsLit_some L (i + 1) r' hr'
      refine ⟨by simp [h1],fun j p hp => ?_⟩
      cases j with
      | zero => cases hp;exact ⟨hij.symm,vs,hvs,hlen,rfl⟩
      | succ j =>
       obtain ⟨q1,cs,q2,q3,q4⟩:=h2 j p hp
       exact ⟨by omega,cs,q2,q3,q4⟩
     ·cases h
    ·cases h
   ·cases h
  ·cases h
theorem parts_dense {parts : List (Nat × Operand)} {ρ : Operand → Value} (h : ∀ (j : Nat) p,parts[j]? = some p → p.1 = j) :
  parts.map (fun p => (p.1,ρ p.2)) = ((parts.map fun p => ρ p.2).zipIdx 0).map fun x => (x.2,x.1):=by
 apply List.ext_getElem?
 intro j
 rw [List.getElem?_map,List.getElem?_map,List.getElem?_zipIdx,List.getElem?_map]
 cases hp : parts[j]? with
 | none => rfl
 | some p => simp [h j p hp]
theorem one_of_cells {agg : Bool} {v : V} {c : Value} {vs : List V} (h : cellsV agg v = some vs) (hv : VR w A β H v c) : c.cells.size = vs.length:=by
 have:=(cellsV_rel h hv (fun _ h => cells_one h)).1
 simpa using this
variable (hty : TyOk P E.ty)
include hty
theorem buildSlice_run {t e len : Nat} {parts : Array (Nat × Operand)} {r : List (List FV)} (ht : (E.ty t).k = .slice e) (hr : rowsLit E H e 0 (parts.toList.map fun p => (p.1,evalV F p.2)) = some r) (hlen : r.length = len) (hmax : len * (E.ty e).size ≤ 16777216)
  (st : St L B0 G T w0 F H a w A β) {A1 : Nat → Prop} (fe : FExt w A w A1) (hin : ∀ v ∈ parts.toList.map (fun p => evalV F p.2),∀ id ∈ idsV 4 v,InA β H A1 id) :
  ∃ cells,(Instr.buildSlice t len (parts.map fun p => (p.1,a.eval p.2))).run P w = .ok (.slice (some ⟨w.heap.size,0,none⟩) len len) (w.alloc (.cells cells e)) ∧ cells.size = len * (E.ty e).size ∧ (∀ q ∈ r,q.length = (E.ty e).size) ∧
   ∀ i q k x,r[i]? = some q → q[k]? = some x → ∃ u,cells[i * (E.ty e).size + k]? = some u ∧ u.oneCell' = true ∧ FR w A1 x u:=by
 have hfact:=(hty t).k
 rw [ht] at hfact
 obtain ⟨hte,hek,hsz,hby⟩:=hfact
 have hsize:=run_sizeOf w (hty e) hek
 obtain ⟨z,hz,_⟩:=run_zeroValue w (hty e) hek
 obtain ⟨h1,h2⟩:=rowsLit_some _ _ _ hr
 rw [List.length_map] at h1
 have part : ∀ (j : Nat) p,parts.toList[j]? = some p → p.1 = j ∧ ∃ cs,cellsV (E.ty e).isAgg (evalV F p.2) = some cs ∧ cs.length = (E.ty e).size ∧ r[j]? = some (cs.map (frzC H)):=by
  intro j p hp
  have:=h2 j (p.1,evalV F p.2) (by rw [List.getElem?_map,hp];rfl)
  simpa using this
 have hdense:=parts_dense (ρ:=a.eval) (fun j p hp => (part j p hp).1)
 have hvals : ∀ v ∈ (parts.toList.map fun p => a.eval p.2),v.cells.size = (E.ty e).size:=by
  intro v hv
  obtain ⟨p,hp,rfl⟩:=List.mem_map.1 hv
  obtain ⟨j,hj,rfl⟩:=List.mem_iff_getElem.1 hp
  obtain ⟨_,cs,q1,q2,_⟩:=part j _ (List.getElem?_eq_getElem hj)
  rw [one_of_cells q1 (st.ev _),q2]
 have hplen : (parts.toList.map fun p => a.eval p.2).length = len:=by rw [List.length_map];omega
 have key : ∀ (cells0 : Array Value),cells0.size = len * (E.ty e).size → ∃ cells,Instr.fill (fun i => some (i * (E.ty e).size,(E.ty e).size)) cells0 (parts.toList.map fun p => (p.1,a.eval p.2)) = some cells ∧ cells.size = len * (E.ty e).size ∧
   ∀ i q k x,r[i]? = some q → q[k]? = some x → ∃ u,cells[i * (E.ty e).size + k]? = some u ∧ u.oneCell' = true ∧ FR w A1 x u:=by
  intro cells0 hc0
  obtain ⟨cells,g1,g2,g3⟩:=Great.fill_dense hsz (parts.toList.map fun p => a.eval p.2) 0 cells0 hvals (by rw [Nat.zero_add,hplen,hc0];exact Nat.le_refl _)
  rw [← hdense] at g1
  refine ⟨cells,g1,g2.trans hc0,fun i q k x hq hk => ?_⟩
  have hi : i < parts.toList.length:=by have:=(List.getElem?_eq_some_iff.1 hq).1;omega
  obtain ⟨_,cs,q1,q2,q3⟩:=part i _ (List.getElem?_eq_getElem hi)
  rw [hq] at q3;cases q3
  rw [List.getElem?_map] at hk
  cases hv : cs[k]? with
  | none => rw [hv] at hk;cases hk
  | some v =>
   rw [hv] at hk;cases hk
   have hkl : k < (E.ty e).size:=by have:=(List.getElem?_eq_some_iff.1 hv).1;omega
   obtain ⟨c1,c2,c3,_⟩:=cellsV_rel q1 (st.ev _) (fun _ h => cells_one h)
   have hkc : k < (a.eval parts.toList[i].2).cells.toList.length:=by omega
   refine ⟨(a.eval parts.toList[i].2).cells.toList[k],?_,c3 _ (List.getElem_mem hkc),frzC_rel st.hp fe (c2 k v _ hv (List.getElem?_eq_getElem hkc)) fun id hid => ?_⟩
   ·have hlt:=cell_lt hkl hi
    rw [g3,if_pos ⟨by omega,by rw [Nat.zero_add];simpa using hlt⟩]
    have hd : (i * (E.ty e).size + k) / (E.ty e).size = i:=by rw [Nat.mul_comm,Nat.mul_add_div hsz,Nat.div_eq_of_lt hkl];omega
    have hm : (i * (E.ty e).size + k) % (E.ty e).size = k:=by rw [Nat.mul_comm,Nat.mul_add_mod,Nat.mod_eq_of_lt hkl]
    rw [hd,hm,Nat.sub_zero,List.getElem?_map,List.getElem?_eq_getElem hi]
    simp at hkc
    simp [hkc]
   ·exact hin (evalV F parts.toList[i].2) (List.mem_map.2 ⟨_,List.getElem_mem hi,rfl⟩) id (cellsV_ids q1 v (List.mem_of_getElem? hv) id hid)
 have hrow : ∀ q ∈ r,q.length = (E.ty e).size:=by
  intro q hq
  obtain ⟨j,hj,rfl⟩:=List.mem_iff_getElem.1 hq
  have hj' : j < parts.toList.length:=by omega
  obtain ⟨_,cs,q1,q2,q3⟩:=part j _ (List.getElem?_eq_getElem hj')
  rw [List.getElem?_eq_getElem hj] at q3
  rw [Option.some.inj q3]
  simpa using q2
 have hnot : ¬ (16777216 < len * (E.ty e).size):=by omega
 have hmap : (parts.map fun p => (p.1,a.eval p.2)).toList = parts.toList.map fun p => (p.1,a.eval p.2):=by simp
 by_cases h0 : len * (E.ty e).size = 0
 ·obtain ⟨cells,g1,g2,g3⟩:=key ((Array.range (len * (E.ty e).size)).map ((#[] : Array Value)[· % (#[] : Array Value).size]!)) (by simp)
  refine ⟨cells,?_,g2,hrow,g3⟩
  simp only [h0] at g1
  simp [Instr.buildSlice,run_underlying hte,hsize,hnot,h0] at g1 ⊢
  simp [g1,newRow,World.alloc_eq]
 ·obtain ⟨cells,g1,g2,g3⟩:=key ((Array.range (len * (E.ty e).size)).map (z.cells[· % z.cells.size]!)) (by simp)
  refine ⟨cells,?_,g2,hrow,g3⟩
  simp [Instr.buildSlice,run_underlying hte,hsize,hnot,h0,hz]
  simp [g1,newRow,World.alloc_eq]
theorem buildSlice_ok {k : V → Hp → R} {t e len nid : Nat} {parts : Array (Nat × Operand)} {r : List (List FV)} {fd : Bool} (ho : o.op = .buildSlice t len parts) (ht : (E.ty t).k = .slice e) (hr : rowsLit E H e 0 (parts.toList.map fun p => (p.1,evalV F p.2)) = some r) (hlen : r.length = len) (hmax : len * (E.ty e).size ≤ 16777216)
  (st : St L B0 G T w0 F H a w A β) (hn : Nxt L B0 G T w0 F a o next res k)
  (h : (match fd with
    | true => k (.f (.arr r)) ((parts.toList.map fun p => evalV F p.2).foldl marks H)
    | false => newB ((parts.toList.map fun p => evalV F p.2).foldl marks H) nid (.own (E.ty e).size r) fun H => k (.ref nid) H) = some res) : o.wp P a w next Q:=by
 have hfact:=(hty t).k
 rw [ht] at hfact
 obtain ⟨hte,hek,hsz,hby⟩:=hfact
 obtain ⟨A1,fe1,he1,hp1,hin⟩:=marksAll_rel st.hp (parts.toList.map fun p => evalV F p.2)
 obtain ⟨cells,g1,g2,g3,g4⟩:=buildSlice_run hty ht hr hlen hmax st fe1 hin
 have hrun : (execOp a.eval o).run P w = .ok (.value (.slice (some ⟨w.heap.size,0,none⟩) len len)) (w.alloc (.cells cells e)):=by
  simp only [execOp,ho,Sem.run_bind,g1];rfl
 have st1 : St L B0 G T w0 F ((parts.toList.map fun p => evalV F p.2).foldl marks H) a w A1 β:=⟨st.fr.mono fe1 he1,hp1,st.below⟩
 have hml : len ≤ maxLen:=by
  have:=Nat.mul_le_mul_left len hsz
  unfold maxLen;omega
 cases fd with
 | true =>
  have g:=Grows.alloc w (.cells cells e)
  have hnew : (w.alloc (.cells cells e)).heap[w.heap.size]? = some (.cells cells e (0,0)):=heap_alloc_new w _
  have fe2 : FExt w A1 (w.alloc (.cells cells e)) (fun b => A1 b ∨ b = w.heap.size):=⟨fun b hb => .inl hb,fun b hb => g.block b (hp1.lt b hb)⟩
  have hp2 : HRel B0 G T (w.alloc (.cells cells e)) (fun b => A1 b ∨ b = w.heap.size) β ((parts.toList.map fun p => evalV F p.2).foldl marks H):=hp1.grow g (fun b hb => .inl hb) (by
   rintro b (hb | rfl)
   ·exact .inl hb
   ·exact .inr ⟨Nat.le_refl _,(Array.getElem?_eq_some_iff.1 hnew).1⟩)
  have hrows : RowsAt (w.alloc (.cells cells e)) A1 w.heap.size 0 (E.ty e).size r:=⟨g3,fun i q k x hq hk => by
   obtain ⟨u,q1,q2,q3⟩:=g4 i q k x hq hk
   exact ⟨u,by rw [cell_at hnew];simpa using q1,q2,q3.mono (g.fext hp1.lt)⟩⟩
  have hv:=arr_of_rows (cap:=len) hsz (by omega) hrows (A':=fun b => A1 b ∨ b = w.heap.size) ⟨fun b hb => .inl hb,fun _ _ => rfl⟩ (.inr rfl)
  rw [hlen] at hv
  exact wp_val' hn h (.f _ _ hv rfl) ⟨st1.fr.mono fe2 (HExt.refl _ _),hp2,st1.below_grow g⟩ hrun
 | false =>
  obtain ⟨hf,h⟩:=newB_some h
  obtain ⟨β',hv,st'⟩:=fill_own (s:=(E.ty e).size) (rows:=r) (cap:=len) (cells:=cells) e hf st1 (Grows.refl w) hsz g3 (by omega) hml rfl g2 g4
  rw [hlen] at hv
  exact wp_val' hn h hv st' hrun
end
end Go.Proofs.YtpffkpaiihcffaaGreatDoor.VM
