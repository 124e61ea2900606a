/- Operations on frozen values against the model's. -/
import Derived.Test.YtpffkpaiihcffaaGreatDoorBasics
import Derived.Laws.StructEq
import Derived.Laws.Cover1
import GoSem.Builtin.Max
import GoSem.Builtin.Min
set_option linter.unusedVariables false
set_option linter.unusedSimpArgs false
namespace Go.Proofs.YtpffkpaiihcffaaGreatDoor.VM
open Go Go.RowKit
section
variable {P : Program} {w : World} {A : Nat → Prop}
theorem toList_data (s : ByteArray) : s.toList = s.data.toList:=by
 exact ByteArray.toList_eq s
theorem bytesLt_eq : ∀ a b : List UInt8,bytesLt a b = Op.bytesLess a b
 | a,[] => by cases a <;> rfl
 | [],_ :: _ => rfl
 | a :: x,b :: y => by simp only [bytesLt,Op.bytesLess,bytesLt_eq x y]
theorem fBin_run {op : BinOp} {x y z : FV} {c d : Value} (t : TypeId) (o1 o2 : Operand) (h : fBin op x y = some z) (hx : FR w A x c) (hy : FR w A y d) :
  ∃ e,(do eqGuard op t o1 o2 c d;binOp op t c d : Sem Value).run P w = .ok e w ∧ FR w A z e:=by
 cases hx with
 | int k a =>
  cases hy with
  | int l b =>
   have hg : (eqGuard op t o1 o2 (.int k a) (.int l b)).run P w = .ok () w:=by cases op <;> simp [eqGuard]
   simp only [Sem.run_bind,hg,Result.andThen_ok]
   cases op
   case shl =>
    simp only [fBin] at h
    split at h
    ·cases h
    ·rename_i hb;cases h
     exact ⟨_,by simp [binOp,Op.shift,hb],.int _ _⟩
   case shr =>
    simp only [fBin] at h
    split at h
    ·cases h
    ·rename_i hb;cases h
     exact ⟨_,by simp [binOp,Op.shift,hb],.int _ _⟩
   all_goals
    simp only [fBin] at h
    split at h
    ·rename_i hk
     subst hk
     simp only [intBin] at h
     first
     | (cases h;exact ⟨_,by simp only [binOp,ne_eq,not_true_eq_false,if_false];rfl,by constructor⟩)
     | (split at h
        ·cases h
        ·rename_i hb;cases h
         exact ⟨_,by simp [binOp,Op.intDiv,hb],.int _ _⟩)
    ·cases h
  | _ => cases op <;> simp [fBin] at h
 | str a =>
  cases hy with
  | str b =>
   have hg : (eqGuard op t o1 o2 (.string a) (.string b)).run P w = .ok () w:=by cases op <;> simp [eqGuard]
   simp only [Sem.run_bind,hg,Result.andThen_ok]
   cases op <;> simp only [fBin] at h
   case add =>
    split at h
    ·rename_i hb
     cases h
     refine ⟨.string (a ++ b),?_,?_⟩
     ·have : ¬ (((a.size + b.size : Nat) : Int) > IntKind.i64.max):=by
       simp only [Array.length_toList] at hb
       have e1 : a.data.size = a.size:=rfl
       have e2 : b.data.size = b.size:=rfl
       have e3 : IntKind.i64.max = 9223372036854775807:=by decide
       rw [e3];omega
      rw [binOp_string_add]
      simp only [Op.stringOp,this,if_false]
      rfl
     ·have : a.data.toList ++ b.data.toList = (a ++ b).data.toList:=by simp
      rw [this]
      exact .str _
    ·cases h
   all_goals first
    | (cases h;exact ⟨_,by simp only [binOp,Op.stringOp,toList_data,bytesLt_eq];rfl,.bool _⟩)
    | cases h
  | _ => cases op <;> simp [fBin] at h
 | _ => cases op <;> (cases hy <;> simp [fBin] at h)
theorem fBoolBin_run {op : BinOp} {x y z : FV} {c d : Value} (t : TypeId) (ht : P.underlying t = some .bool) (o1 o2 : Operand) (h : fBoolBin op x y = some z) (hx : FR w A x c) (hy : FR w A y d) :
  ∃ e,(do eqGuard op t o1 o2 c d;binOp op t c d : Sem Value).run P w = .ok e w ∧ FR w A z e:=by
 unfold fBoolBin at h
 split at h
 ·cases h;cases hx;cases hy
  rename_i a b
  exact ⟨.bool (a == b),by simp [eqGuard,binOp,Op.equal,Op.maxDepth,run_equalIn_bool' w _ _ _ _ ht],.bool _⟩
 ·cases h;cases hx;cases hy
  rename_i a b
  exact ⟨.bool (!(a == b)),by simp [eqGuard,binOp,Op.equal,Op.maxDepth,run_equalIn_bool' w _ _ _ _ ht],.bool _⟩
 ·cases h
theorem fUn_run {op : UnOp} {x z : FV} {c : Value} (h : fUn op x = some z) (hx : FR w A x c) : ∃ e,(Op.unary op c).run P w = .ok e w ∧ FR w A z e:=by
 unfold fUn at h
 split at h
 ·cases h;cases hx;exact ⟨_,rfl,.int _ _⟩
 ·cases h;cases hx;exact ⟨_,rfl,.bool _⟩
 ·cases h
theorem asNat_rel {x : FV} {c : Value} {n : Nat} (h : asNat x = some n) (hx : FR w A x c) : ∃ k m,c = .int k m ∧ 0 ≤ m ∧ m.toNat = n:=by
 unfold asNat at h
 split at h
 ·rename_i k m
  split at h
  ·rename_i hm;cases h;cases hx;exact ⟨k,m,rfl,hm,rfl⟩
  ·cases h
 ·cases h
theorem bindO_some {α β : Type} {x : Option α} {k : α → Option β} {r : β} (h : bindO x k = some r) : ∃ a,x = some a ∧ k a = some r:=by
 cases x with
 | none => cases h
 | some a => exact ⟨a,rfl,h⟩
theorem gB_some {α : Type} {b : Bool} {k : Option α} {r : α} (h : gB b k = some r) : b = true ∧ k = some r:=by
 cases b with
 | true => exact ⟨rfl,h⟩
 | false => cases h
theorem fCond_some {α : Type} {x : FV} {a b : Option α} {r : α} (h : fCond x a b = some r) : (x = .bool true ∧ a = some r) ∨ (x = .bool false ∧ b = some r):=by
 unfold fCond at h
 split at h
 ·exact .inl ⟨rfl,h⟩
 ·exact .inr ⟨rfl,h⟩
 ·cases h
theorem fLen_run {t e : TypeId} {x z : FV} {c : Value} (he : P.underlying t = some (.slice e)) (ty : TypeId) (h : fLen x = some z) (hx : FR w A x c) : ∃ u,(Builtin.len_ #[t] ty #[c]).run P w = .ok u w ∧ FR w A z u ∧ u.oneCell' = true:=by
 unfold fLen at h
 split at h
 ·rename_i r
  cases h
  cases hx with
  | arrNil a cap => exact ⟨.int .i64 0,by simp [Builtin.len_,underlying,he,goInt],.int _ _,rfl⟩
  | arr rows a cap s u h1 h2 h3 h4 h5 ho h6 => exact ⟨.int .i64 r.length,by simp [Builtin.len_,underlying,he,goInt],.int _ _,rfl⟩
 ·cases h
  cases hx with
  | nilS a => exact ⟨.int .i64 0,by simp [Builtin.len_,underlying,he,goInt],.int _ _,rfl⟩
 ·cases h
theorem fLenT_run {t : TypeId} {x z : FV} {c : Value} (he : P.underlying t = some .string) (ty : TypeId) (h : fLenT x = some z) (hx : FR w A x c) : ∃ u,(Builtin.len_ #[t] ty #[c]).run P w = .ok u w ∧ FR w A z u ∧ u.oneCell' = true:=by
 unfold fLenT at h
 split at h
 ·cases h
  cases hx with
  | str s => exact ⟨.int .i64 s.size,by simp [Builtin.len_,underlying,he,goInt],by simpa using FR.int .i64 _,rfl⟩
 ·cases h
theorem fAddr_rel {p : FV} {c : Value} {off : Nat} {a : Addr} (hc : c = .pointer (some a)) (hx : FR w A p c) : FR w A (fAddr p off) (.pointer (some (a.add off))):=by
 subst hc
 unfold fAddr
 split
 ·rename_i cs o
  generalize hv : Value.pointer (some a) = v at hx
  cases hx with
  | eptr cells ad off' u hA hm ho hx =>
   cases hv
   have : (ad.add o).add off = ad.add (o + off):=by
    unfold Addr.add
    by_cases h1 : o = 0
    ·subst h1;by_cases h2 : off = 0 <;> simp [h2]
    ·by_cases h2 : off = 0
     ·subst h2;simp [h1]
     ·simp [h1,h2];omega
   rw [this]
   exact .eptr cs ad (o + off) u hA hm ho hx
 ·exact .undef _
theorem fLd_rel {p z : FV} {c : Value} {off : Nat} (h : fLd p off = some z) (hx : FR w A p c) : ∃ a u,c = .pointer (some a) ∧ w.cell? (a.add off) = some u ∧ u.oneCell' = true ∧ FR w A z u:=by
 unfold fLd at h
 split at h
 ·rename_i cs o
  cases hx with
  | eptr cells ad off' u hA hm ho hx =>
   have hk : o + off < cs.length:=(List.getElem?_eq_some_iff.1 h).1
   refine ⟨ad.add o,u (o + off),rfl,?_,ho _ hk,hx _ _ h⟩
   have : (ad.add o).add off = ad.add (o + off):=by
    unfold Addr.add
    by_cases h1 : o = 0
    ·subst h1;by_cases h2 : off = 0 <;> simp [h2]
    ·by_cases h2 : off = 0
     ·subst h2;simp [h1]
     ·simp [h1,h2];omega
   rw [this]
   exact hm _ hk
 ·cases h
theorem add_add (a : Addr) (m n : Nat) : (a.add m).add n = a.add (m + n):=by
 unfold Addr.add
 by_cases h1 : m = 0
 ·subst h1;by_cases h2 : n = 0 <;> simp [h2]
 ·by_cases h2 : n = 0
  ·subst h2;simp [h1]
  ·simp [h1,h2];omega
theorem fIdx_run {t e : TypeId} {x i z : FV} {c d : Value} {size : Nat} (ht : P.underlying t = some (.slice e)) (hsz : ∀ w,(Go.sizeOf e).run P w = .ok size w)
  (h : fIdx size x i = some z) (hx : FR w A x c) (hi : FR w A i d) : ∃ u,(Instr.indexAt t c d).run P w = .ok u w ∧ FR w A z u:=by
 unfold fIdx at h
 split at h
 ·rename_i rows
  obtain ⟨j,hj,h⟩:=bindO_some h
  obtain ⟨cs,hcs,h⟩:=bindO_some h
  split at h
  ·rename_i hlen
   cases h
   obtain ⟨k,m,rfl,hm0,hmj⟩:=asNat_rel hj hi
   have hjl : j < rows.length:=(List.getElem?_eq_some_iff.1 hcs).1
   cases hx with
   | arrNil a cap => simp at hcs
   | arr rows a cap s u h1 h2 h3 h4 h5 ho h6 =>
    have hs : size = s:=by rw [← hlen];exact h3 cs (List.mem_of_getElem? hcs)
    subst hs
    have hb : 0 ≤ m ∧ m < (rows.length : Int):=⟨hm0,by omega⟩
    refine ⟨.pointer (some (a.add (m.toNat * size))),?_,?_⟩
    ·simp [Instr.indexAt,asIntOf,underlying,ht,hb,hsz]
    ·rw [hmj]
     have hz : (a.add (j * size)) = (a.add (j * size)).add 0:=(add_zero_addr _).symm
     rw [hz]
     refine .eptr cs (a.add (j * size)) 0 (fun k => u j k) (by rw [add_block];exact h4) ?_ (fun k hk => ho j k hjl (by omega)) ?_
     ·intro k hk
      rw [add_add]
      exact h5 j k hjl (by omega)
     ·intro k x hk
      exact h6 j cs k x hcs hk
  ·cases h
 ·cases h
theorem fIdxC_run {t e : TypeId} {x i : FV} {cs : List FV} {c d : Value} {size : Nat} (ht : P.underlying t = some (.slice e)) (hsz : ∀ w,(Go.sizeOf e).run P w = .ok size w)
  (h : fIdxC size x i = some cs) (hx : FR w A x c) (hi : FR w A i d) : ∃ u,(Instr.indexAt t c d).run P w = .ok u w ∧ FR w A (.eptr cs 0) u ∧ u.oneCell' = true:=by
 have h' : fIdx size x i = some (.eptr cs 0):=by
  unfold fIdxC at h
  unfold fIdx
  split at h
  ·obtain ⟨j,hj,h⟩:=bindO_some h
   obtain ⟨c0,hc,h⟩:=bindO_some h
   split at h
   ·rename_i hl
    cases h
    simp [hj,bindO,hc,hl]
   ·cases h
  ·cases h
 obtain ⟨u,h1,h2⟩:=fIdx_run ht hsz h' hx hi
 refine ⟨u,h1,h2,?_⟩
 cases h2;rfl
theorem fMinMax_run {b : Bool} {x y z : FV} {c d : Value} (h : fMinMax b x y = some z) (hx : FR w A x c) (hy : FR w A y d) :
  ∃ e,(if b = true then Builtin.max2 c d else Builtin.min2 c d).run P w = .ok e w ∧ FR w A z e:=by
 unfold fMinMax at h
 split at h
 ·rename_i k a l e
  split at h
  ·rename_i hk;subst hk
   cases hx;cases hy
   cases b
   ·cases h;exact ⟨_,rfl,.int _ _⟩
   ·cases h;exact ⟨_,rfl,.int _ _⟩
  ·cases h
 ·cases h
inductive OptR (w : World) (A : Nat → Prop) : Option FV → Option Value → Prop
 | none : OptR w A none none
 | some (x : FV) (c : Value) (h : FR w A x c) : OptR w A (some x) (some c)
theorem sliceBound_run {x : FV} {c : Value} {j y : Nat} (code : BoundsCode) (h : asNat x = some j) (hx : FR w A x c) (hj : j ≤ y) : (Instr.sliceBound c y code).run P w = .ok j w:=by
 obtain ⟨k,m,rfl,h0,rfl⟩:=asNat_rel h hx
 have : 0 ≤ m ∧ m ≤ (y : Int):=⟨h0,by omega⟩
 simp [Instr.sliceBound,asIntOf,this]
theorem cut_bounds {isSlice : Bool} {n cap l r : Nat} {lo hi : Option FV} {clo chi : Option Value} (h : cut? n lo hi = some (l,r)) (hn : n ≤ cap) (hlo : OptR w A lo clo) (hhi : OptR w A hi chi) :
  (Instr.sliceBounds isSlice n cap clo chi none).run P w = .ok (l,r,cap) w ∧ l ≤ r ∧ r ≤ n:=by
 unfold cut? at h
 obtain ⟨h',e1,h⟩:=bindO_some h
 obtain ⟨l',e2,h⟩:=bindO_some h
 split at h
 ·rename_i hle
  cases h
  refine ⟨?_,hle⟩
  unfold Instr.sliceBounds
  cases hhi with
  | none =>
   cases e1
   cases hlo with
   | none => cases e2;simp
   | some x c hx => simp [sliceBound_run _ e2 hx hle.1]
  | some y d hy =>
   cases hlo with
   | none => cases e2;simp [sliceBound_run _ e1 hy (Nat.le_trans hle.2 hn)]
   | some x c hx => simp [sliceBound_run _ e1 hy (Nat.le_trans hle.2 hn),sliceBound_run _ e2 hx hle.1]
 ·cases h
theorem extract_list (s : ByteArray) (l h : Nat) : (s.extract l h).data.toList = (s.data.toList.take h).drop l:=by
 rw [ByteArray.data_extract,Array.toList_extract]
 simp [List.extract,List.drop_take]
theorem rows_cut {rows : List (List FV)} {a : Addr} {s : Nat} {u : Nat → Nat → Value} (hs : 0 < s) (hr : ∀ r ∈ rows,r.length = s) (hA : A a.block)
  (hm : ∀ i k,i < rows.length → k < s → w.cell? (a.add (i * s + k)) = some (u i k)) (ho : ∀ i k,i < rows.length → k < s → (u i k).oneCell' = true) (hx : ∀ i r k x,rows[i]? = some r → r[k]? = some x → FR w A x (u i k))
  {l r m : Nat} (hl : l ≤ r) (hrn : r ≤ rows.length) (hm2 : r ≤ m) : FR w A (.arr ((rows.take r).drop l)) (.slice (if m = l then some a else some (a.add (l * s))) (r - l) (m - l)):=by
 by_cases h0 : r = l
 ·subst h0
  have : (rows.take r).drop r = []:=by simp
  rw [this,Nat.sub_self]
  exact .arrNil _ _
 ·have hml : ¬ m = l:=by omega
  rw [if_neg hml]
  have hlen : ((rows.take r).drop l).length = r - l:=by simp;omega
  rw [← hlen]
  refine .arr _ (a.add (l * s)) (m - l) s (fun i k => u (l + i) k) hs (by rw [hlen];omega) ?_ (by rw [add_block];exact hA) ?_ (fun i k hi hk => ho (l + i) k (by rw [hlen] at hi;omega) hk) ?_
  ·intro q hq
   exact hr q (List.mem_of_mem_take (List.mem_of_mem_drop hq))
  ·intro i k hi hk
   rw [hlen] at hi
   rw [add_add,show l * s + (i * s + k) = (l + i) * s + k by rw [Nat.add_mul];omega]
   exact hm (l + i) k (by omega) hk
  ·intro i q k x h1 h2
   rw [List.getElem?_drop,List.getElem?_take] at h1
   split at h1
   ·exact hx (l + i) q k x h1 h2
   ·cases h1
theorem rowsSz_size {size s : Nat} {rows : List (List FV)} (h : rowsSz size rows = true) (hr : ∀ r ∈ rows,r.length = s) (hne : rows ≠ []) : size = s:=by
 obtain ⟨r0,rs,rfl⟩:=List.exists_cons_of_ne_nil hne
 have:=hr r0 (by simp)
 simp [rowsSz] at h
 omega
theorem fCut_core {t e : TypeId} {size : Nat} {x z : FV} {c : Value} {lo hi : Option FV} {clo chi cmx : Option Value} (he : P.underlying t = some (.slice e)) (hsz : ∀ w,(Go.sizeOf e).run P w = .ok size w)
  (bds : ∀ {n cap l r : Nat},cut? n lo hi = some (l,r) → n ≤ cap → ∃ m,(Instr.sliceBounds true n cap clo chi cmx).run P w = .ok (l,r,m) w ∧ l ≤ r ∧ r ≤ n ∧ r ≤ m ∧ (cap = 0 → m = 0))
  (h : fCut size x lo hi = some z) (hx : FR w A x c) : ∃ u,(Instr.sliceAt t c clo chi cmx).run P w = .ok u w ∧ FR w A z u:=by
 unfold fCut at h
 split at h
 ·rename_i rows
  obtain ⟨hlen,h⟩:=gB_some h
  obtain ⟨⟨l,r⟩,hc,h⟩:=bindO_some h
  cases h
  cases hx with
  | arrNil a cap =>
   obtain ⟨m,hb,h1,h2,h3,_⟩:=bds (cap:=cap) hc (Nat.zero_le _)
   simp only [List.length_nil] at h2 hb
   obtain rfl : r = 0:=by omega
   obtain rfl : l = 0:=by omega
   refine ⟨_,by simp [Instr.sliceAt,Instr.slice,underlying,he,hb,hsz];rfl,?_⟩
   simpa using FR.arrNil _ _
  | arr rows a cap s u h1 h2 h3 h4 h5 ho h6 =>
   obtain ⟨m,hb,g1,g2,g3,_⟩:=bds (cap:=cap) hc h2
   by_cases hrows : rows = []
   ·subst hrows
    simp only [List.length_nil] at g2 hb
    obtain rfl : r = 0:=by omega
    obtain rfl : l = 0:=by omega
    refine ⟨_,by simp [Instr.sliceAt,Instr.slice,underlying,he,hb,hsz];rfl,?_⟩
    simpa using FR.arrNil _ _
   ·obtain rfl:=rowsSz_size hlen h3 hrows
    refine ⟨.slice (if m = l then some a else some (a.add (l * size))) (r - l) (m - l),?_,rows_cut h1 h3 h4 h5 ho h6 g1 g2 g3⟩
    by_cases hcl : m = l
    ·subst hcl;simp [Instr.sliceAt,Instr.slice,underlying,he,hb,hsz]
    ·simp [Instr.sliceAt,Instr.slice,underlying,he,hb,hsz,hcl]
 ·obtain ⟨⟨l,r⟩,hc,h⟩:=bindO_some h
  cases h
  cases hx with
  | nilS a =>
   obtain ⟨m,hb,g1,g2,g3,g4⟩:=bds (cap:=0) hc (Nat.le_refl _)
   obtain rfl : r = 0:=by omega
   obtain rfl : l = 0:=by omega
   have hm : m = 0:=g4 rfl
   subst hm
   refine ⟨_,by simp [Instr.sliceAt,Instr.slice,underlying,he,hb,hsz];rfl,?_⟩
   simpa using FR.nilS _
 ·cases h
theorem fCut_run {t e : TypeId} {size : Nat} {x z : FV} {c : Value} {lo hi : Option FV} {clo chi : Option Value} (he : P.underlying t = some (.slice e)) (hsz : ∀ w,(Go.sizeOf e).run P w = .ok size w)
  (h : fCut size x lo hi = some z) (hx : FR w A x c) (hlo : OptR w A lo clo) (hhi : OptR w A hi chi) :
  ∃ u,(Instr.sliceAt t c clo chi none).run P w = .ok u w ∧ FR w A z u :=
 fCut_core he hsz (fun {n cap l r} hc hn => by
  obtain ⟨h1,h2,h3⟩:=cut_bounds (P:=P) (isSlice:=true) (cap:=cap) hc hn hlo hhi
  exact ⟨cap,h1,h2,h3,Nat.le_trans h3 hn,fun h => h⟩) h hx
theorem fCut3_run {t e : TypeId} {size : Nat} {x z : FV} {c : Value} {lo : Option FV} {hi mx : FV} {clo : Option Value} {chi cmx : Value} {h' : Nat} (he : P.underlying t = some (.slice e)) (hsz : ∀ w,(Go.sizeOf e).run P w = .ok size w)
  (h : fCut size x lo (some hi) = some z) (hx : FR w A x c) (hlo : OptR w A lo clo) (hhi : FR w A hi chi) (hmx : FR w A mx cmx) (e1 : asNat hi = some h') (e2 : asNat mx = some h') :
  ∃ u,(Instr.sliceAt t c clo (some chi) (some cmx)).run P w = .ok u w ∧ FR w A z u :=
 fCut_core he hsz (fun {n cap l r} hc hn => by
  unfold cut? at hc
  obtain ⟨h2,q1,hc⟩:=bindO_some hc
  obtain ⟨l',q2,hc⟩:=bindO_some hc
  simp only at q1
  rw [e1] at q1;cases q1
  split at hc
  ·rename_i hle
   cases hc
   refine ⟨h',?_,hle.1,hle.2,Nat.le_refl _,fun h0 => by omega⟩
   unfold Instr.sliceBounds
   cases hlo with
   | none => cases q2;simp [sliceBound_run _ e2 hmx (Nat.le_trans hle.2 hn),sliceBound_run _ e1 hhi (Nat.le_refl _)]
   | some x c hx => simp [sliceBound_run _ e2 hmx (Nat.le_trans hle.2 hn),sliceBound_run _ e1 hhi (Nat.le_refl _),sliceBound_run _ q2 hx hle.1]
  ·cases hc) h hx
theorem fSub_run {t : TypeId} {x z : FV} {c : Value} {lo hi : Option FV} {clo chi : Option Value} (he : P.underlying t = some .string)
  (h : fSub x lo hi = some z) (hx : FR w A x c) (hlo : OptR w A lo clo) (hhi : OptR w A hi chi) : ∃ u,(Instr.sliceAt t c clo chi none).run P w = .ok u w ∧ FR w A z u:=by
 unfold fSub at h
 split at h
 ·rename_i s
  obtain ⟨⟨l,r⟩,hc,h⟩:=bindO_some h
  cases h
  cases hx with
  | str s =>
   obtain ⟨hb,g1,g2⟩:=cut_bounds (P:=P) (isSlice:=false) (cap:=s.size) hc (by simp) hlo hhi
   refine ⟨.string (s.extract l r),?_,?_⟩
   ·have e1 : s.data.toList.length = s.size:=by simp
    rw [e1] at hb
    simp [Instr.sliceAt,Instr.slice,underlying,he,hb]
   ·have:=FR.str (w:=w) (A:=A) (s.extract l r)
    rw [extract_list] at this
    exact this
 ·cases h
theorem fConvInt_run {s d : TypeId} {ds : TypeDesc} {k : IntKind} {x z : FV} {c : Value} (hs : P.underlying s = some ds) (hd : P.underlying d = some (.int k)) (h : fConvInt k x = some z) (hx : FR w A x c) :
  ∃ u,(convert s d c).run P w = .ok u w ∧ FR w A z u:=by
 unfold fConvInt at h
 split at h
 ·cases h;cases hx
  exact ⟨_,by simp [convert,underlying,hs,hd,Conv.intToInt],.int _ _⟩
 ·cases h
theorem fByte_run {t : TypeId} {x i z : FV} {c d : Value} (ht : P.underlying t = some .string) (h : fByte x i = some z) (hx : FR w A x c) (hi : FR w A i d) : ∃ u,(Instr.index t c d).run P w = .ok u w ∧ FR w A z u:=by
 unfold fByte at h
 split at h
 ·obtain ⟨j,hj,h⟩:=bindO_some h
  obtain ⟨b,hb,h⟩:=bindO_some h
  cases h
  obtain ⟨k,m,rfl,h0,rfl⟩:=asNat_rel hj hi
  cases hx with
  | str s =>
   have hl : m.toNat < s.data.toList.length:=(List.getElem?_eq_some_iff.1 hb).1
   have hg : s[m.toNat]? = some b:=by
    have h2 : m.toNat < s.size:=by simpa using hl
    rw [List.getElem?_eq_getElem hl] at hb
    cases hb
    simp [getElem?_pos,h2]
    rfl
   exact ⟨.int .u8 b.toNat,by simp [Instr.index,asIntOf,underlying,ht,h0,hg],.int _ _⟩
 ·cases h
end
end Go.Proofs.YtpffkpaiihcffaaGreatDoor.VM
