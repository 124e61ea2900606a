/- Operations, continued: append, cuts, new rows. -/
import Derived.Test.YtpffkpaiihcffaaGreatDoorOps3
import Derived.Great.FillDense
import Derived.Laws.MakeOwn
set_option linter.unusedVariables false
set_option linter.unusedSimpArgs false
set_option linter.unusedSectionVars false
namespace Go.Proofs.YtpffkpaiihcffaaGreatDoor.VM
open Go Go.RowKit
section
variable {P : Program} {E : Env} {L : List (Fr × Act)} {B0 : Nat} {G T : Nat → Prop} {w0 w w' : World} {A : Nat → Prop} {β : LocOf} {H : Hp} {F : Fr} {a : Act} {o : Oper}
variable {next : Act → World → Prop} {Q : Exit → Act → World → Prop} {res : FV}
structure Flat (w : World) (A : Nat → Prop) (s : Nat) (ys : List (List FV)) (news : List Value) : Prop where
 row : ∀ r ∈ ys,r.length = s
 len : news.length = ys.length * s
 one : ∀ u ∈ news,u.oneCell' = true
 at_ : ∀ i r k x,ys[i]? = some r → r[k]? = some x → ∃ u,news[i * s + k]? = some u ∧ FR w A x u
theorem Flat.nil (s : Nat) : Flat w A s [] []:=⟨by simp,by simp,by simp,by intro i r k x h;simp at h⟩
theorem Flat.mono {A' : Nat → Prop} {s : Nat} {ys : List (List FV)} {news : List Value} (h : Flat w A s ys news) (e : FExt w A w' A') : Flat w' A' s ys news :=
 ⟨h.row,h.len,h.one,fun i r k x h1 h2 => let ⟨u,h3,h4⟩:=h.at_ i r k x h1 h2;⟨u,h3,h4.mono e⟩⟩
theorem divmod_cell {s j : Nat} (hs : 0 < s) : j / s * s + j % s = j:=by rw [Nat.mul_comm];exact Nat.div_add_mod j s
theorem div_lt {s j n : Nat} (hs : 0 < s) (h : j < n * s) : j / s < n:=by rw [Nat.div_lt_iff_lt_mul hs];exact h
theorem flat_of {s : Nat} {rows : List (List FV)} {ad : Addr} (hs : 0 < s) (hr : ∀ r ∈ rows,r.length = s)
  (hc : ∀ i k,i < rows.length → k < s → ∃ u,w.cell? (ad.add (i * s + k)) = some u ∧ u.oneCell' = true ∧ ∀ r x,rows[i]? = some r → r[k]? = some x → FR w A x u) :
  ∃ news,Flat w A s rows news ∧ ∀ (j : Nat) u,news[j]? = some u → w.cell? (ad.add j) = some u:=by
 have cell : ∀ j,j < rows.length * s → ∃ u,w.cell? (ad.add j) = some u ∧ u.oneCell' = true ∧ ∀ r x,rows[j / s]? = some r → r[j % s]? = some x → FR w A x u:=by
  intro j hj
  have:=hc (j / s) (j % s) (div_lt hs hj) (Nat.mod_lt _ hs)
  rwa [divmod_cell hs] at this
 refine ⟨(List.range (rows.length * s)).map fun j => (w.cell? (ad.add j)).getD undef,⟨hr,by simp,?_,?_⟩,?_⟩
 ·intro u hu
  obtain ⟨j,hj,rfl⟩:=List.mem_map.1 hu
  obtain ⟨v,h1,h2,_⟩:=cell j (List.mem_range.1 hj)
  rw [h1];exact h2
 ·intro i r k x h1 h2
  have hi : i < rows.length:=(List.getElem?_eq_some_iff.1 h1).1
  have hk : k < s:=by have:=hr r (List.mem_of_getElem? h1);have:=(List.getElem?_eq_some_iff.1 h2).1;omega
  obtain ⟨u,h3,_,h4⟩:=hc i k hi hk
  refine ⟨u,?_,h4 r x h1 h2⟩
  rw [List.getElem?_map,List.getElem?_range (cell_lt hk hi)]
  simp [h3]
 ·intro j u hu
  rw [List.getElem?_map] at hu
  by_cases hj : j < rows.length * s
  ·rw [List.getElem?_range hj] at hu
   obtain ⟨v,h1,_⟩:=cell j hj
   simp [h1] at hu
   rw [h1,hu]
  ·rw [List.getElem?_eq_none (by simp;omega)] at hu;cases hu
theorem rows_at {id : Nat} {r : List (List FV)} (hp : HRel B0 G T w A β H) (hr : rowsOf H id = some r) : (β id = .nil ∧ r = []) ∨ ∃ b o s cap,β id = .at b o s cap ∧ 0 < s ∧ r.length ≤ cap ∧ RowsAt w A b o s r:=by
 unfold rowsOf at hr
 split at hr
 ·rename_i s0 q hq
  cases hr
  rcases hp.blk id _ hq with h | ⟨b,o,cap,h1,h2,h3,_,h4,_⟩
  ·exact .inl h
  ·exact .inr ⟨b,o,s0,cap,h1,h2,h3,h4⟩
 ·rename_i q hq
  cases hr
  rcases hp.blk id _ hq with h | ⟨b,o,s,cap,h1,h2,h3,h4,_⟩
  ·exact .inl h
  ·exact .inr ⟨b,o,s,cap,h1,h2,h3,h4⟩
 ·rename_i q hq
  cases hr
  rcases hp.blk id _ hq with h | ⟨b,o,s,cap,h1,h2,h3,h4,_⟩
  ·exact .inl h
  ·exact .inr ⟨b,o,s,cap,h1,h2,h3,h4⟩
 ·cases hr
theorem RowsAt.cells {b o s : Nat} {rows : List (List FV)} (h : RowsAt w A b o s rows) : ∀ i k,i < rows.length → k < s → ∃ u,w.cell? ((⟨b,o,none⟩ : Addr).add (i * s + k)) = some u ∧ u.oneCell' = true ∧ ∀ r x,rows[i]? = some r → r[k]? = some x → FR w A x u:=by
 intro i k hi hk
 have hr : rows[i]? = some rows[i]:=List.getElem?_eq_getElem hi
 have hl : rows[i].length = s:=h.1 _ (List.getElem_mem hi)
 obtain ⟨u,h1,h2,h3⟩:=h.2 i rows[i] k rows[i][k] hr (List.getElem?_eq_getElem (by omega))
 refine ⟨u,?_,h2,fun r x hr' hx => ?_⟩
 ·have hadd : ∀ n,(⟨b,o,none⟩ : Addr).add n = ⟨b,o + n,none⟩:=fun n => by unfold Addr.add;split <;> simp_all
  rw [hadd];exact h1
 ·rw [hr] at hr';cases hr'
  rw [List.getElem?_eq_getElem (by omega)] at hx;cases hx
  exact h3
theorem flat_size {size s : Nat} {ys : List (List FV)} {news : List Value} (h : Flat w A s ys news) (hz : rowsSz size ys = true) : Flat w A size ys news:=by
 cases ys with
 | nil => have:=h.len;simp at this;subst this;exact Flat.nil size
 | cons y ys =>
  have h1 : y.length = size:=by simpa [rowsSz] using hz
  have h2:=h.row y (by simp)
  have : size = s:=by omega
  subst this;exact h
def SrcKind (P : Program) (isStr : Bool) (tx : TypeId) (size : Nat) : Prop:=match isStr with | true => P.underlying tx = some .string ∧ size = 1 | false => ∃ e',P.underlying tx = some (.slice e')
theorem srcRows_rel {isStr : Bool} {tx : TypeId} {size : Nat} {v : V} {c : Value} {k : List (List FV) → R} (hkind : SrcKind P isStr tx size)
  (hv : VR w A β H v c) (hp : HRel B0 G T w A β H) (h : srcRows H isStr v k = some res) :
  ∃ ys,k ys = some res ∧ (rowsSz size ys = true → ∃ news,Src P size tx c ys.length news w ∧ Flat w A size ys news):=by
 have empty : ∀ {isn : ∃ e',P.underlying tx = some (.slice e')} (ad : Option Addr) (cap : Nat),Src P size tx (.slice ad 0 cap) 0 [] w:=by
  intro ⟨e',he⟩ ad cap
  cases ad with
  | none => exact Src.ofNil w he cap
  | some ad => exact Src.ofSlice w he ad 0 cap [] (by simp) (by simp) (by simp)
 unfold srcRows at h
 split at h
 ·obtain ⟨hk1,hk2⟩:=hkind
  split at h
  ·rename_i x
   obtain ⟨ys,h1,h2⟩:=bindO_some h
   refine ⟨ys,h2,fun hz => ?_⟩
   obtain ⟨hx,_⟩:=hv.f'
   unfold strRows at h1
   split at h1
   ·rename_i s
    cases h1
    cases hx with
    | str sb =>
     subst hk2
     refine ⟨byteCells sb,?_,⟨?_,?_,?_,?_⟩⟩
     ·have:=Src.ofString w hk1 sb
      have hl : (sb.data.toList.map fun b => [FV.int .u8 b.toNat]).length = sb.size:=by simp
      rw [hl];exact this
     ·intro r hr;obtain ⟨b,_,rfl⟩:=List.mem_map.1 hr;rfl
     ·simp [byteCells]
     ·intro u hu;obtain ⟨b,_,rfl⟩:=List.mem_map.1 hu;rfl
     ·intro i r k x h1 h2
      rw [List.getElem?_map] at h1
      cases hb : sb.data.toList[i]? with
      | none => rw [hb] at h1;cases h1
      | some b =>
       rw [hb] at h1;cases h1
       cases k with
       | zero =>
        cases h2
        refine ⟨.int .u8 b.toNat,?_,.int _ _⟩
        simp [byteCells,hb]
       | succ k => cases h2
   ·cases h1
  ·cases h
 ·obtain ⟨e',he⟩:=hkind
  split at h
  ·rename_i x
   obtain ⟨ys,h1,h2⟩:=bindO_some h
   refine ⟨ys,h2,fun hz => ?_⟩
   obtain ⟨hx,_⟩:=hv.f'
   unfold asRows at h1
   split at h1
   ·cases h1
    cases hx with
    | arrNil ad cap => exact ⟨[],empty (isn:=⟨e',he⟩) ad cap,Flat.nil size⟩
    | arr rows ad cap s u hs hc hr hA hm h1 hx =>
     obtain ⟨news,g1,g2⟩:=flat_of (w:=w) (A:=A) (ad:=ad) hs hr (fun i k hi hk => ⟨u i k,hm i k hi hk,h1 i k hi hk,fun r x hr' hx' => hx i r k x hr' hx'⟩)
     have g3:=flat_size g1 hz
     exact ⟨news,Src.ofSlice w he ad _ cap news g3.len g2 g3.one,g3⟩
   ·cases h1
    cases hx with
    | nilS ad => exact ⟨[],empty (isn:=⟨e',he⟩) ad 0,Flat.nil size⟩
   ·cases h1
  ·rename_i id
   split at h
   ·rename_i r hr
    refine ⟨r,h,fun hz => ?_⟩
    cases hv with
    | refNil _ ad hb hr2 => rw [hr] at hr2;cases hr2;exact ⟨[],empty (isn:=⟨e',he⟩) ad 0,Flat.nil size⟩
    | refAt _ b o s cap n hb rows hr2 hn =>
     rw [hr] at hr2;cases hr2
     rcases rows_at hp hr with ⟨h0,_⟩ | ⟨b2,o2,s2,cap2,h3,h4,h5,h6⟩
     ·rw [hb] at h0;cases h0
     rw [hb] at h3;cases h3
     obtain ⟨news,g1,g2⟩:=flat_of (w:=w) (A:=A) (ad:=⟨b,o,none⟩) h4 h6.1 h6.cells
     have g3:=flat_size g1 hz
     subst hn
     exact ⟨news,Src.ofSlice w he _ _ cap news g3.len g2 g3.one,g3⟩
    | refDead _ _ hd => unfold rowsOf at hr;rw [hd] at hr;cases hr
   ·cases h
  ·cases h
theorem fill_own {id : Nat} {rows : List (List FV)} {cells : Array Value} {cap s : Nat} (e : TypeId) (hf : H[id]? = some .free) (st : St L B0 G T w0 F H a w A β) (g : Grows w w') (hs : 0 < s) (hrows : ∀ r ∈ rows,r.length = s) (hcap : rows.length ≤ cap) (hmax : cap ≤ maxLen)
  {W : World} (hW : W = w'.alloc (.cells cells e)) (hsize : cells.size = cap * s) (hcell : ∀ i r k x,rows[i]? = some r → r[k]? = some x → ∃ u,cells[i * s + k]? = some u ∧ u.oneCell' = true ∧ FR w A x u) :
  ∃ β',VR W A β' (H.set id (.own s rows)) (.ref id) (.slice (some ⟨w'.heap.size,0,none⟩) rows.length cap) ∧ St L B0 G T w0 F (H.set id (.own s rows)) a W A β':=by
 subst hW
 have g2:=g.trans (Grows.alloc w' (.cells cells e))
 have hn : β id = .no:=st.hp.blk id _ hf
 have fe:=g2.fext (A:=A) st.hp.lt
 have hnew : (w'.alloc (.cells cells e)).heap[w'.heap.size]? = some (.cells cells e (0,0)):=heap_alloc_new w' _
 obtain ⟨he,hp⟩:=(st.hp.grow g2 (fun _ h => h) (fun _ h => .inl h)).fill (k:=.own s rows) (l:=.at w'.heap.size 0 s cap) hf (.inr ⟨w'.heap.size,0,cap,rfl,hs,hcap,hmax,⟨hrows,fun i r k x hr hx => by
   obtain ⟨u,h1,h2,h3⟩:=hcell i r k x hr hx
   exact ⟨u,by rw [cell_at hnew];simpa using h1,h2,h3.mono fe⟩⟩,cells,e,hnew,by omega⟩) (by
   intro b o s' cap' hb ha
   cases hb
   obtain ⟨q1,q2⟩:=st.hp.not_new g.size
   exact ⟨.inl (Nat.le_trans st.hp.base g.size),q1,q2⟩)
 refine ⟨_,.refAt id _ 0 s cap _ (locSet_new _ _ _) rows ?_ rfl,⟨st.fr.mono fe he,hp,st.below_grow g2⟩⟩
 unfold rowsOf
 rw [get_set_hp,if_pos ⟨rfl,(List.getElem?_eq_some_iff.1 hf).1⟩]
theorem fill_nil {id s : Nat} (hf : H[id]? = some .free) (st : St L B0 G T w0 F H a w A β) (ad : Option Addr) :
  ∃ β',VR w A β' (H.set id (.own s [])) (.ref id) (.slice ad 0 0) ∧ St L B0 G T w0 F (H.set id (.own s [])) a w A β':=by
 obtain ⟨he,hp⟩:=st.hp.fill (k:=.own s []) (l:=.nil) hf (.inl ⟨rfl,rfl⟩) (by intro b o s cap hb;cases hb)
 refine ⟨_,.refNil id ad (locSet_new _ _ _) ?_,⟨st.fr.mono (FExt.refl w A) he,hp,st.below⟩⟩
 unfold rowsOf
 rw [get_set_hp,if_pos ⟨rfl,(List.getElem?_eq_some_iff.1 hf).1⟩]
theorem own_append {r ys : List (List FV)} {i k : Nat} {row : List FV} {x : FV} (h : (r ++ ys)[i]? = some row) (hx : row[k]? = some x) : (i < r.length ∧ r[i]? = some row) ∨ (r.length ≤ i ∧ ys[i - r.length]? = some row):=by
 rw [List.getElem?_append] at h
 split at h
 ·exact .inl ⟨by assumption,h⟩
 ·exact .inr ⟨by omega,h⟩
variable (hty : TyOk P E.ty)
include hty
theorem append_core {k : V → Hp → R} {t tx ty e nid : Nat} {isStr : Bool} {s x : V} {c d : Value} (ht : (E.ty t).k = .slice e) (htx : isStr = true → P.underlying tx = some .string) (htx' : isStr = false → ∃ e',P.underlying tx = some (.slice e'))
  (hs : VR w A β H s c) (hx : VR w A β H x d) (st : St L B0 G T w0 F H a w A β) (h : appendK E nid H e isStr s x k = some res) :
  ∃ v u w' A' β' H',(Builtin.append_ #[t,tx] ty #[c,d]).run P w = .ok u w' ∧ k v H' = some res ∧ VR w' A' β' H' v u ∧ St L B0 G T w0 F H' a w' A' β':=by
 have hfact:=(hty t).k
 rw [ht] at hfact
 obtain ⟨hte,hek,hsz,hby⟩:=hfact
 obtain ⟨i,z,i1,i2,i3,i4,i5,i6,i7,_⟩:=(hty e).info hek
 unfold appendK at h
 replace h:=gB_some h
 obtain ⟨hstr,h⟩:=h
 have hkind : SrcKind P isStr tx (E.ty e).size:=by
  cases isStr with
  | true => exact ⟨htx rfl,Nat.eq_of_beq_eq_true hstr⟩
  | false => exact htx' rfl
 replace h:=srcRows_rel (size:=(E.ty e).size) hkind hx st.hp h
 obtain ⟨ys,h,hsrc⟩:=h
 replace h:=gB_some h
 obtain ⟨hys,h⟩:=h
 obtain ⟨news,src,flat⟩:=hsrc hys
 rw [← i2] at src
 have hn:=flat.len
 split at h
 ·
  obtain ⟨hnil,h⟩:=onNil_some h
  subst hnil
  obtain ⟨hroom,h⟩:=gB_some h
  simp only [decide_eq_true_eq] at hroom
  obtain ⟨hf,h⟩:=newB_some h
  have hc:=hs.f'.1
  cases hc with
  | nilS base =>
   by_cases h0 : ys.length = 0
   ·have hys0 : ys = []:=List.eq_nil_of_length_eq_zero h0
    subst hys0
    have hnews : news = []:=by simpa using hn
    subst hnews
    obtain ⟨β',hv,st'⟩:=fill_nil hf st base
    exact ⟨_,_,_,_,_,_,run_append_nothing w t tx ty e i hte i1 base 0 0 (Nat.le_refl _) d src,h,hv,st'⟩
   ·have hfits:=growslice_fits (need:=ys.length) (old:=0) (bytes:=i.bytes) (by omega) (by rw [i3];exact hroom)
    have hlen : ys.length ≤ room:=by
     have:=Nat.mul_le_mul_left ys.length hby
     omega
    have hgc:=grownCap_ge w ys.length 0 e
    have hgm:=grownCap_le_maxLen w ys.length 0 e (by unfold maxLen;unfold room at hlen;omega)
    have hrun:=run_append_grow_src (P:=P) w t tx ty e i z hte i1 i4 base 0 0 [] (by
     cases base with
     | none => exact run_firstCells_none w.drew _ 0 0 0
     | some ad => exact run_firstCells_some w.drew _ 0 ad 0 0 [] (by simp) (by simp)) d ys.length news src (by omega) (by unfold room at hlen;omega) (by simpa using hfits)
    simp only [Nat.zero_add,List.nil_append] at hrun
    obtain ⟨β',hv,st'⟩:=fill_own (W:=w.drew.alloc (.cells (news.toArray ++ Builtin.zeroCells z.cells (grownCap w ys.length 0 e - ys.length)) e)) (cells:=news.toArray ++ Builtin.zeroCells z.cells (grownCap w ys.length 0 e - ys.length)) e hf st (Grows.drew w) hsz flat.row hgc hgm rfl (by
      rw [Array.size_append,size_zeroCells,i6]
      simp only [List.size_toArray]
      rw [hn,← Nat.add_mul];congr 1;omega) (by
      intro i r k x hr hx
      obtain ⟨u,h1,h2⟩:=flat.at_ i r k x hr hx
      refine ⟨u,?_,flat.one u (List.mem_of_getElem? h1),h2⟩
      rw [Array.getElem?_append,if_pos (by simpa using (List.getElem?_eq_some_iff.1 h1).1)]
      simpa using h1)
    exact ⟨_,_,_,_,_,_,hrun,h,hv,st'⟩
 ·rename_i id
  split at h
  ·rename_i sz r hid
   obtain ⟨hr,h⟩:=gB_some h
   have hse0:=Nat.eq_of_beq_eq_true hr
   subst hse0
   obtain ⟨hroom,h⟩:=gB_some h
   simp only [decide_eq_true_eq] at hroom
   obtain ⟨hf,h⟩:=newB_some h
   obtain ⟨he1,hp1⟩:=settle_rel st.hp
   have hid1 : (settle H)[id]? = some (Blk.own (E.ty e).size r):=settle_get hid (by simp)
   obtain ⟨he2,hp2⟩:=hp1.retire hid1
   have st2 : St L B0 G T w0 F ((settle H).set id (.old r)) a w A β:=⟨st.fr.mono (FExt.refl w A) (he1.trans he2),hp2,st.below⟩
   have hnid : id ≠ nid:=by
    intro e;subst e
    rw [get_set_hp,if_pos ⟨rfl,(List.getElem?_eq_some_iff.1 hid1).1⟩] at hf;cases hf
   have hlen : r.length + ys.length ≤ room:=by
    have:=Nat.mul_le_mul_left (r.length + ys.length) hby
    omega
   cases hs with
   | refNil _ base hb hr2 =>
    have hr0 : r = []:=by unfold rowsOf at hr2;rw [hid] at hr2;cases hr2;rfl
    subst hr0
    simp only [List.nil_append,List.length_nil,Nat.zero_add] at h hroom hlen
    by_cases h0 : ys.length = 0
    ·have hys0 : ys = []:=List.eq_nil_of_length_eq_zero h0
     subst hys0
     have hnews : news = []:=by simpa using hn
     subst hnews
     obtain ⟨β',hv,st'⟩:=fill_nil hf st2 base
     exact ⟨_,_,_,_,_,_,run_append_nothing w t tx ty e i hte i1 base 0 0 (Nat.le_refl _) d src,h,hv,st'⟩
    ·have hfits:=growslice_fits (need:=ys.length) (old:=0) (bytes:=i.bytes) (by omega) (by rw [i3];exact hroom)
     have hgc:=grownCap_ge w ys.length 0 e
     have hgm:=grownCap_le_maxLen w ys.length 0 e (by unfold maxLen;unfold room at hlen;omega)
     have hrun:=run_append_grow_src (P:=P) w t tx ty e i z hte i1 i4 base 0 0 [] (by
      cases base with
      | none => exact run_firstCells_none w.drew _ 0 0 0
      | some ad => exact run_firstCells_some w.drew _ 0 ad 0 0 [] (by simp) (by simp)) d ys.length news src (by omega) (by unfold room at hlen;omega) (by simpa using hfits)
     simp only [Nat.zero_add,List.nil_append] at hrun
     obtain ⟨β',hv,st'⟩:=fill_own (W:=w.drew.alloc (.cells (news.toArray ++ Builtin.zeroCells z.cells (grownCap w ys.length 0 e - ys.length)) e)) (cells:=news.toArray ++ Builtin.zeroCells z.cells (grownCap w ys.length 0 e - ys.length)) e hf st2 (Grows.drew w) hsz flat.row hgc hgm rfl (by
       rw [Array.size_append,size_zeroCells,i6]
       simp only [List.size_toArray]
       rw [hn,← Nat.add_mul];congr 1;omega) (by
       intro i r k x hr hx
       obtain ⟨u,h1,h2⟩:=flat.at_ i r k x hr hx
       refine ⟨u,?_,flat.one u (List.mem_of_getElem? h1),h2⟩
       rw [Array.getElem?_append,if_pos (by simpa using (List.getElem?_eq_some_iff.1 h1).1)]
       simpa using h1)
     exact ⟨_,_,_,_,_,_,hrun,h,hv,st'⟩
   | refDead _ _ hd => rw [hid] at hd;cases hd
   | refAt _ b o s cap n hb rows hr2 hn2 =>
    have hr0 : rows = r:=by unfold rowsOf at hr2;rw [hid] at hr2;cases hr2;rfl
    subst hr0
    subst hn2
    rcases st.hp.blk id _ hid with ⟨h0,_⟩ | ⟨b2,o2,cap2,h3,h4,h5,h6,h7,cc,ce,h8,h9⟩
    ·rw [hb] at h0;cases h0
    rw [hb] at h3;cases h3
    obtain ⟨olds,fo,fcell⟩:=flat_of (w:=w) (A:=A) (ad:=⟨b,o,none⟩) h4 h7.1 h7.cells
    by_cases hfit : rows.length + ys.length ≤ cap
    ·
     have hmul : o + rows.length * (E.ty e).size + news.length ≤ cc.size:=by
      have:=Nat.mul_le_mul_right (E.ty e).size hfit
      rw [Nat.add_mul] at this
      omega
     have hrun:=run_append_room_src (P:=P) w t tx ty e i hte i1 b o rows.length cap d ys.length news src hfit (by
      intro j hj
      rw [cell_at h8,i2,Array.getElem?_eq_getElem (by omega)];rfl) (by intro j hj;exact frozen_at h8 _)
     rw [i2] at hrun
     obtain ⟨c',g1,g2,g3⟩:=setCells_block b news (o + rows.length * (E.ty e).size) w cc h8 hmul
     have hours:=st.hp.ours id b o (E.ty e).size cap _ hid rfl hb
     have hoth : ∀ b',b' ≠ b → (w.setCells b (o + rows.length * (E.ty e).size) news).heap[b']? = w.heap[b']?:=fun b' hb' => setCells_other b b' hb' _ _ _
     have hszw : (w.setCells b (o + rows.length * (E.ty e).size) news).heap.size = w.heap.size:=setCells_size _ _ _ _
     have fe0 : FExt w A (w.setCells b (o + rows.length * (E.ty e).size) news) A:=⟨fun _ h => h,fun b' hb' => hoth b' (fun e => hours.2 (e ▸ hb'))⟩
     have hrows : RowsAt (w.setCells b (o + rows.length * (E.ty e).size) news) A b o (E.ty e).size rows:=⟨h7.1,fun i r k x h1 h2 => by
      obtain ⟨u,q1,q2,q3⟩:=h7.2 i r k x h1 h2
      have hi : i < rows.length:=(List.getElem?_eq_some_iff.1 h1).1
      have hk : k < (E.ty e).size:=by have:=h7.1 r (List.mem_of_getElem? h1);have:=(List.getElem?_eq_some_iff.1 h2).1;omega
      have:=cell_lt hk hi
      refine ⟨u,?_,q2,q3.mono fe0⟩
      rw [cell_at g1,g3,if_neg (by omega),← cell_at h8];exact q1⟩
     have hlid : id < (settle H).length:=(List.getElem?_eq_some_iff.1 hid1).1
     obtain ⟨fe,hp3⟩:=hp2.turnAt (b:=b) hszw hoth hours.2 (by
      intro fe i k hk hd hbl
      rw [get_set_hp] at hk
      by_cases ei : id = i
      ·subst ei
       rw [if_pos ⟨rfl,hlid⟩] at hk;cases hk
       exact .inr ⟨b,o,(E.ty e).size,cap,hb,h4,h5,hrows,by rw [hszw];exact (Array.getElem?_eq_some_iff.1 h8).1⟩
      ·rw [if_neg (fun q => ei q.1)] at hk
       exfalso
       cases hq : β i with
       | no => rw [hq] at hbl;cases hbl
       | nil => rw [hq] at hbl;cases hbl
       | «at» b3 o3 s3 cap3 =>
        rw [hq] at hbl;cases hbl
        cases k with
        | dead => exact hd rfl
        | free => have q : β i = .no:=hp1.blk i _ hk;rw [q] at hq;cases hq
        | own s' r' => exact ei (hp1.inj id i _ _ _ _ _ _ _ _ _ hid1 hk rfl rfl hb hq)
        | old r' => exact no_old i r' hk
        | fz r' =>
         rcases hp1.blk i _ hk with ⟨q1,_⟩ | ⟨b4,o4,s4,cap4,q1,_,_,_,q2⟩
         ·rw [q1] at hq;cases hq
         ·rw [q1] at hq;cases hq;exact hours.2 q2
        | box r' => exact ei (hp1.inj id i _ _ _ _ _ _ _ _ _ hid1 hk rfl rfl hb hq)
        | fzb r' =>
         obtain ⟨b4,s4,q1,q2,_⟩:=hp1.blk i _ hk
         rw [q1] at hq;cases hq;exact hours.2 q2
        | map ag r' => exact ei (hp1.inj id i _ _ _ _ _ _ _ _ _ hid1 hk rfl rfl hb hq)
        | sit x y => exact ei (hp1.inj id i _ _ _ _ _ _ _ _ _ hid1 hk rfl rfl hb hq))
     obtain ⟨he4,hp4⟩:=hp3.fill (k:=.own (E.ty e).size (rows ++ ys)) (l:=.at b o (E.ty e).size cap) hf (.inr ⟨b,o,cap,rfl,h4,by simpa using hfit,h6,⟨by
       intro r hr'
       rcases List.mem_append.1 hr' with h1 | h1
       ·exact h7.1 r h1
       ·exact flat.row r h1,fun i r k x h1 h2 => by
       rcases own_append h1 h2 with ⟨q1,q2⟩ | ⟨q1,q2⟩
       ·exact hrows.2 i r k x q2 h2
       ·obtain ⟨u,q3,q4⟩:=flat.at_ _ r k x q2 h2
        refine ⟨u,?_,flat.one u (List.mem_of_getElem? q3),q4.mono fe⟩
        have hj:=(List.getElem?_eq_some_iff.1 q3).1
        have hi' : i * (E.ty e).size = rows.length * (E.ty e).size + (i - rows.length) * (E.ty e).size:=by rw [← Nat.add_mul];congr 1;omega
        rw [cell_at g1,g3,if_pos (by omega),show o + (i * (E.ty e).size + k) - (o + rows.length * (E.ty e).size) = (i - rows.length) * (E.ty e).size + k by omega]
        exact q3⟩,c',ce,g1,by rw [g2];exact h9⟩) (by
       intro b' o' s' cap' hb' _
       cases hb'
       refine ⟨hours.1,hours.2,?_⟩
       intro i b3 o3 s3 cap3 k3 hk3 ha3 hq3 e3
       subst e3
       rw [get_set_hp] at hk3
       by_cases ei : id = i
       ·subst ei;rw [if_pos ⟨rfl,hlid⟩] at hk3;cases hk3;cases ha3
       ·rw [if_neg (fun q => ei q.1)] at hk3
        exact ei (hp1.inj id i _ _ _ _ _ _ _ _ _ hid1 hk3 rfl ha3 hb hq3))
     obtain ⟨p1,p2,p3⟩:=setCells_os b news (o + rows.length * (E.ty e).size) w
     refine ⟨_,_,_,_,_,_,hrun,h,.refAt nid b o (E.ty e).size cap _ (locSet_new _ _ _) (rows ++ ys) ?_ (by simp),⟨st2.fr.mono fe he4,hp4,st.below_turn hours.1 p1 p2 p3 hszw hoth⟩⟩
     unfold rowsOf
     rw [get_set_hp,if_pos ⟨rfl,(List.getElem?_eq_some_iff.1 hf).1⟩]
    ·
     have hfits:=growslice_fits (need:=rows.length + ys.length) (old:=cap) (bytes:=i.bytes) (by omega) (by rw [i3];exact hroom)
     have hgc:=grownCap_ge w (rows.length + ys.length) cap e
     have hgm:=grownCap_le_maxLen w (rows.length + ys.length) cap e (by unfold maxLen;unfold room at hlen;omega)
     have hrun:=run_append_grow_src (P:=P) w t tx ty e i z hte i1 i4 (some ⟨b,o,none⟩) rows.length cap olds (by
      rw [i2]
      exact run_firstCells_some w.drew _ _ ⟨b,o,none⟩ _ cap olds fo.len (by intro j u hu;simpa using fcell j u hu)) d ys.length news src (by omega) (by unfold room at hlen;omega) (by simpa using hfits)
     have hol:=fo.len
     obtain ⟨β',hv,st'⟩:=fill_own (s:=(E.ty e).size) (rows:=rows ++ ys) (cap:=grownCap w (rows.length + ys.length) cap e) (W:=w.drew.alloc (.cells ((olds ++ news).toArray ++ Builtin.zeroCells z.cells (grownCap w (rows.length + ys.length) cap e - (rows.length + ys.length))) e)) (cells:=(olds ++ news).toArray ++ Builtin.zeroCells z.cells (grownCap w (rows.length + ys.length) cap e - (rows.length + ys.length))) e hf st2 (Grows.drew w) hsz (by
       intro r hr'
       rcases List.mem_append.1 hr' with h1 | h1
       ·exact h7.1 r h1
       ·exact flat.row r h1) (by simpa using hgc) hgm rfl (by
       rw [Array.size_append,size_zeroCells,i6]
       simp only [List.size_toArray,List.length_append]
       rw [hol,hn,← Nat.add_mul,← Nat.add_mul];congr 1;omega) (by
       intro i r k x hr' hx
       rcases own_append hr' hx with ⟨q1,q2⟩ | ⟨q1,q2⟩
       ·obtain ⟨u,q3,q4⟩:=fo.at_ i r k x q2 hx
        have hj:=(List.getElem?_eq_some_iff.1 q3).1
        refine ⟨u,?_,fo.one u (List.mem_of_getElem? q3),q4⟩
        rw [Array.getElem?_append,if_pos (by simp;omega)]
        simp only [List.getElem?_toArray]
        rw [List.getElem?_append,if_pos hj];exact q3
       ·obtain ⟨u,q3,q4⟩:=flat.at_ _ r k x q2 hx
        have hj:=(List.getElem?_eq_some_iff.1 q3).1
        have hi' : i * (E.ty e).size = rows.length * (E.ty e).size + (i - rows.length) * (E.ty e).size:=by rw [← Nat.add_mul];congr 1;omega
        refine ⟨u,?_,flat.one u (List.mem_of_getElem? q3),q4⟩
        rw [Array.getElem?_append,if_pos (by simp;omega)]
        simp only [List.getElem?_toArray]
        rw [List.getElem?_append,if_neg (by omega),show i * (E.ty e).size + k - olds.length = (i - rows.length) * (E.ty e).size + k by omega]
        exact q3)
     rw [List.length_append] at hv
     exact ⟨_,_,_,_,_,_,hrun,h,hv,st'⟩
  ·cases h
 ·cases h
end
end Go.Proofs.YtpffkpaiihcffaaGreatDoor.VM
