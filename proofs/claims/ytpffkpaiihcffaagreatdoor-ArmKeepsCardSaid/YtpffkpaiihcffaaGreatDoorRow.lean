/- Data of plain types: what the reading of an argument says of it; a law's call. -/
import Derived.Test.YtpffkpaiihcffaaGreatDoorDraw8
import Derived.Test.YtpffkpaiihcffaaGreatDoorCont
import Derived.Test.YtpffkpaiihcffaaGreatDoorCallG
import Derived.ChangeOld
import Derived.WideShapes
import Derived.DataReads
import Derived.SizedLaws
import Derived.Carry
import Derived.ChangeShapes
import Derived.ChangeArms
import Derived.OpenShut
set_option linter.unusedVariables false
set_option linter.unusedSimpArgs false
set_option linter.unusedSectionVars false
namespace Go.Proofs.YtpffkpaiihcffaaGreatDoor.VM
open Go Go.RowKit
inductive TC where
 | bool | int (k : IntKind) | str | sl (b : Nat) (e : TC) | nil | cons (a b : TC)
 deriving Inhabited
def Val : TC → Type
 | .bool => Bool
 | .int _ => Int
 | .str => List UInt8
 | .sl _ e => Option (List (Val e))
 | .nil => Unit
 | .cons a b => Val a × Val b
def sl {α : Type} (e : α → List FV) : Option (List α) → FV
 | none => .nilS
 | some l => .arr (l.map e)
def li {α : Type} : Option (List α) → List α
 | none => []
 | some l => l
def TC.size : TC → Nat
 | .nil => 0
 | .cons a b => a.size + b.size
 | _ => 1
def TC.agg : TC → Bool
 | .nil => true
 | .cons _ _ => true
 | _ => false
def cells : (t : TC) → Val t → List FV
 | .bool,b => [.bool b]
 | .int k,n => [.int k n]
 | .str,s => [.str s]
 | .sl _ e,o => [sl (cells e) o]
 | .nil,_ => []
 | .cons a b,v => cells a v.1 ++ cells b v.2
def argF (t : TC) (v : Val t) : FV:=match t.agg with | true => .agg (cells t v) | false => (cells t v).headD .undef
def wf : (t : TC) → Val t → Prop
 | .bool,_ => True
 | .int k,n => (Lit.int k n).wf = true
 | .str,s => s.length ≤ reachBytes
 | .sl b e,o => (li o).length * b ≤ reachBytes ∧ ∀ x ∈ li o,wf e x
 | .nil,_ => True
 | .cons a b,v => wf a v.1 ∧ wf b v.2
def rep : Nat → TC → TC
 | 0,_ => .nil
 | n + 1,t => .cons t (rep n t)
def tcFlds (P : Program) (f : TypeId → Option TC) : List Field → Nat → Option TC
 | [],_ => some .nil
 | x :: l,off => match Nat.beq x.offset off with
  | true => (match f x.type with
   | some a => (match Nat.beq (P.cellsOf x.type) a.size with
    | true => (match tcFlds P f l (off + a.size) with | some b => some (.cons a b) | none => none)
    | false => none)
   | none => none)
  | false => none
def tcOf (P : Program) : Nat → TypeId → Option TC
 | 0,_ => none
 | n + 1,t => match P.underlying t with
  | some .bool => some .bool
  | some (.int k) => some (.int k)
  | some .string => some .str
  | some (.slice e) => (match tcOf P n e with
   | some c => (match Nat.beq (P.cellsOf e) c.size && Nat.ble 1 c.size with | true => some (.sl (P.bytesOf e) c) | false => none)
   | none => none)
  | some (.struct fs) => (match tcFlds P (tcOf P n) fs.toList 0 with
   | some c => (match Nat.beq (P.cellsOf t) c.size with | true => some c | false => none)
   | none => none)
  | some (.array k e) => (match tcOf P n e with
   | some c => (match Nat.beq (P.cellsOf e) c.size && Nat.beq (P.cellsOf t) (k * c.size) with | true => some (rep k c) | false => none)
   | none => none)
  | _ => none
theorem cells_len : ∀ (t : TC) (v : Val t),(cells t v).length = t.size
 | .bool,_ => rfl
 | .int _,_ => rfl
 | .str,_ => rfl
 | .sl _ _,_ => rfl
 | .nil,_ => rfl
 | .cons a b,v => by simp only [cells,List.length_append,cells_len a,cells_len b,TC.size]
def CellsR (w : World) (A : Nat → Prop) : List FV → List Value → Prop
 | [],[] => True
 | x :: xs,c :: cs => (FR w A x c ∧ c.oneCell' = true) ∧ CellsR w A xs cs
 | _,_ => False
theorem CellsR.len {w : World} {A : Nat → Prop} : ∀ {xs : List FV} {cs : List Value},CellsR w A xs cs → xs.length = cs.length
 | [],[],_ => rfl
 | _ :: xs,_ :: cs,h => by simp only [List.length_cons,h.2.len]
 | [],_ :: _,h => h.elim
 | _ :: _,[],h => h.elim
theorem CellsR.get {w : World} {A : Nat → Prop} : ∀ {xs : List FV} {cs : List Value},CellsR w A xs cs → ∀ (k : Nat) x c,xs[k]? = some x → cs[k]? = some c → FR w A x c ∧ c.oneCell' = true
 | x :: xs,c :: cs,h,0,_,_,hx,hc => by cases hx;cases hc;exact h.1
 | x :: xs,c :: cs,h,k + 1,y,d,hx,hc => h.2.get k y d (by simpa using hx) (by simpa using hc)
 | [],[],_,k,_,_,hx,_ => by simp at hx
 | [],_ :: _,h,_,_,_,_,_ => h.elim
 | _ :: _,[],h,_,_,_,_,_ => h.elim
theorem CellsR.app {w : World} {A : Nat → Prop} : ∀ {xs : List FV} {cs : List Value} {ys : List FV} {ds : List Value},CellsR w A xs cs → CellsR w A ys ds → CellsR w A (xs ++ ys) (cs ++ ds)
 | [],[],_,_,_,h => h
 | _ :: xs,_ :: cs,_,_,h,k => ⟨h.1,h.2.app k⟩
 | [],_ :: _,_,_,h,_ => h.elim
 | _ :: _,[],_,_,h,_ => h.elim
theorem CellsR.one {w : World} {A : Nat → Prop} {x : FV} {cs : List Value} (h : CellsR w A [x] cs) : ∃ c,cs = [c] ∧ FR w A x c ∧ c.oneCell' = true:=by
 match cs,h with
 | [c],h => exact ⟨c,rfl,h.1⟩
theorem list_choose {α : Type} {Q : Nat → α → Prop} : ∀ n,(∀ i,i < n → ∃ v,Q i v) → ∃ vs : List α,vs.length = n ∧ ∀ i v,vs[i]? = some v → Q i v
 | 0,_ => ⟨[],rfl,by simp⟩
 | n + 1,h => by
  obtain ⟨vs,h1,h2⟩:=list_choose n fun i hi => h i (by omega)
  obtain ⟨v,hv⟩:=h n (by omega)
  refine ⟨vs ++ [v],by simp [h1],fun i u hu => ?_⟩
  rcases Nat.lt_or_ge i n with hi | hi
  ·rw [List.getElem?_append_left (by omega)] at hu
   exact h2 i u hu
  ·rw [List.getElem?_append_right (by omega),h1] at hu
   have e : i = n:=by
    rcases Nat.lt_or_ge n i with h3 | h3
    ·rw [List.getElem?_eq_none (by simp;omega)] at hu
     cases hu
    ·omega
   subst e
   simp only [Nat.sub_self,List.getElem?_cons_zero,Option.some.injEq] at hu
   subst hu
   exact hv
section
variable {Hh : Type} {enc : TypeId × Value → Hh} {P : Program} {W : World}
def Low (W : World) : Nat → Prop:=fun b => b < W.heap.size
theorem weightsAll_get {e : TypeId} : ∀ {ds : List (DataW Hh)},(DataW.weightsAll P e ds).all (· ≤ reachBytes) = true → ∀ d ∈ ds,(d.weights P e).all (· ≤ reachBytes) = true
 | [],_,d,hd => by cases hd
 | x :: ds,h,d,hd => by
  simp only [DataW.weightsAll,List.all_append,Bool.and_eq_true] at h
  rcases List.mem_cons.1 hd with rfl | hd
  ·exact h.1
  ·exact weightsAll_get h.2 d hd
theorem take_split {α : Type} (l : List α) (o a b : Nat) : (l.drop o).take (a + b) = (l.drop o).take a ++ (l.drop (o + a)).take b:=by
 rw [List.take_add,List.drop_drop]
theorem cell_low {a : Addr} {v : Value} (h : W.cell? a = some v) : a.block < W.heap.size:=by
 unfold World.cell? at h
 split at h
 ·rename_i hb;exact (Array.getElem?_eq_some_iff.1 hb).1
 ·cases h
def Opens (enc : TypeId × Value → Hh) (P : Program) (W : World) (m : Nat) (t : TypeId) (tc : TC) : Prop :=
 ∀ (cs : List Value) (d : DataW Hh) (ps : List MemPlace),DataW.trod enc P W 0 (fun _ => true) true m t cs = some (d,ps) →
  ∃ v : Val tc,CellsR W (Low W) (cells tc v) cs ∧ ((d.weights P t).all (· ≤ reachBytes) = true → wf tc v)
theorem open_flds {n m : Nat} (ih : ∀ t tc,tcOf P n t = some tc → Opens enc P W m t tc) {cs : List Value} : ∀ (l : List Field) (off : Nat) (c : TC),tcFlds P (tcOf P n) l off = some c → ∀ (xs : List (DataW Hh × List MemPlace)),xs.length = l.length →
  (∀ (i : Nat) f,l[i]? = some f → DataW.trod enc P W 0 (fun _ => true) true m f.type ((cs.drop f.offset).take (P.cellsOf f.type)) = xs[i]?) →
  ∃ v : Val c,CellsR W (Low W) (cells c v) ((cs.drop off).take c.size) ∧ ((DataW.weightsEach P (l.map (·.type)) (xs.map (·.1))).all (· ≤ reachBytes) = true → wf c v)
 | [],off,c,h,xs,hl,hx => by
  simp only [tcFlds,Option.some.injEq] at h
  subst h
  exact ⟨(),by simp [TC.size,cells,CellsR],fun _ => True.intro⟩
 | f :: l,off,c,h,[],hl,hx => by simp at hl
 | f :: l,off,c,h,x :: xs,hl,hx => by
  simp only [tcFlds] at h
  split at h
  ·rename_i ho
   have ho:=Nat.eq_of_beq_eq_true ho
   split at h
   ·rename_i a ha
    split at h
    ·rename_i hc
     have hc:=Nat.eq_of_beq_eq_true hc
     split at h
     ·rename_i b hb
      cases h
      obtain ⟨v2,h3,h4⟩:=open_flds ih l (off + a.size) b hb xs (by simpa using hl) (fun i g hg => by simpa using hx (i + 1) g (by simpa using hg))
      have h0:=hx 0 f rfl
      simp only [List.getElem?_cons_zero] at h0
      rw [ho,hc] at h0
      obtain ⟨v1,h1,h2⟩:=ih f.type a ha _ x.1 x.2 h0
      refine ⟨(v1,v2),?_,fun hw => ?_⟩
      ·simp only [TC.size,take_split,cells]
       exact h1.app h3
      ·simp only [List.map_cons,DataW.weightsEach,List.all_append,Bool.and_eq_true] at hw
       exact ⟨h2 hw.1,h4 hw.2⟩
     ·cases h
    ·cases h
   ·cases h
  ·cases h
theorem open_rep {m : Nat} {e : TypeId} {c : TC} (ih : Opens enc P W m e c) {cs : List Value} (hc : P.cellsOf e = c.size) : ∀ (k j : Nat) (xs : List (DataW Hh × List MemPlace)),xs.length = k →
  (∀ i,i < k → DataW.trod enc P W 0 (fun _ => true) true m e ((cs.drop ((j + i) * P.cellsOf e)).take (P.cellsOf e)) = xs[i]?) →
  ∃ v : Val (rep k c),CellsR W (Low W) (cells (rep k c) v) ((cs.drop (j * c.size)).take (k * c.size)) ∧ ((DataW.weightsAll P e (xs.map (·.1))).all (· ≤ reachBytes) = true → wf (rep k c) v)
 | 0,j,xs,hl,hx => ⟨(),by simp [rep,cells,CellsR],fun _ => True.intro⟩
 | k + 1,j,[],hl,hx => by simp at hl
 | k + 1,j,x :: xs,hl,hx => by
  obtain ⟨v2,h3,h4⟩:=open_rep ih hc k (j + 1) xs (by simpa using hl) (fun i hi => by
   have:=hx (i + 1) (by omega)
   rw [show j + (i + 1) = j + 1 + i by omega] at this
   simpa using this)
  have h0:=hx 0 (by omega)
  simp only [Nat.add_zero,List.getElem?_cons_zero] at h0
  rw [hc] at h0
  obtain ⟨v1,h1,h2⟩:=ih _ x.1 x.2 h0
  refine ⟨(v1,v2),?_,fun hw => ?_⟩
  ·rw [Nat.succ_mul,Nat.add_comm (k * c.size),take_split]
   simp only [rep,cells]
   rw [Nat.succ_mul] at h3
   exact h1.app h3
  ·simp only [List.map_cons,DataW.weightsAll,List.all_append,Bool.and_eq_true] at hw
   exact ⟨h2 hw.1,h4 hw.2⟩
theorem open_cells : ∀ (n : Nat) (t : TypeId) (tc : TC),tcOf P n t = some tc → ∀ m,Opens enc P W m t tc
 | 0,t,tc,h,m,cs,d,ps,hr => by simp [tcOf] at h
 | n + 1,t,tc,h,m,cs,d,ps,hr => by
  simp only [tcOf] at h
  split at h
  ·rename_i ht
   cases h
   obtain ⟨b,rfl,he⟩:=DataW.trod_bool ht hr
   cases he
   exact ⟨b,⟨⟨.bool b,rfl⟩,True.intro⟩,fun _ => True.intro⟩
  ·rename_i k ht
   cases h
   obtain ⟨x,rfl,he,hw⟩:=DataW.trod_int ht hr
   cases he
   exact ⟨x,⟨⟨.int _ _,rfl⟩,True.intro⟩,fun _ => hw⟩
  ·rename_i ht
   cases h
   obtain ⟨s,rfl,he,_⟩:=DataW.trod_string ht hr
   cases he
   exact ⟨s.data.toList,⟨⟨.str s,rfl⟩,True.intro⟩,fun hw => by simpa [DataW.weights,wf] using hw⟩
  ·rename_i e ht
   split at h
   ·rename_i c hc
    split at h
    ·rename_i hb
     cases h
     simp only [Bool.and_eq_true] at hb
     have hsz:=Nat.eq_of_beq_eq_true hb.1
     have hpos:=Nat.le_of_ble_eq_true hb.2
     rcases DataW.trod_slice ht hr with ⟨rfl,he⟩ | ⟨a,len,cap,elems,rest,m',rfl,rfl,he,_,hlc,hcm,hlen,hel,_,_⟩
     ·cases he
      exact ⟨none,⟨⟨.nilS none,rfl⟩,True.intro⟩,fun _ => ⟨by simp [li],by simp [li]⟩⟩
     ·cases he
      have ih:=open_cells n e c hc m'
      have hq : ∀ i,i < len → ∃ v : Val c,∃ cs,W.cells? 0 (a.add (i * P.cellsOf e)) (P.cellsOf e) = some cs ∧ CellsR W (Low W) (cells c v) cs ∧ ∀ y,elems[i]? = some y → (y.1.weights P e).all (· ≤ reachBytes) = true → wf c v:=by
       intro i hi
       have h1:=hel i hi
       rw [List.getElem?_eq_getElem (by omega)] at h1
       obtain ⟨cs,h2,h3⟩:=Option.bind_eq_some_iff.1 h1
       obtain ⟨v,h4,h5⟩:=ih cs _ _ h3
       refine ⟨v,cs,h2,h4,fun y hy hw => ?_⟩
       rw [List.getElem?_eq_getElem (by omega)] at hy
       cases hy
       exact h5 hw
      obtain ⟨vs,hv1,hv2⟩:=list_choose len hq
      refine ⟨(some vs : Option (List (Val c))),⟨⟨?_,rfl⟩,True.intro⟩,fun hw => ?_⟩
      ·show FR W (Low W) (.arr (vs.map (cells c))) _
       cases len with
       | zero =>
        obtain rfl : vs = []:=List.eq_nil_of_length_eq_zero hv1
        exact .arrNil _ _
       | succ len =>
        have hcell : ∀ i k,i < len + 1 → k < c.size → ∃ u,W.cell? (a.add (i * c.size + k)) = some u ∧ u.oneCell' = true ∧ ∀ r x,(vs.map (cells c))[i]? = some r → r[k]? = some x → FR W (Low W) x u:=by
         intro i k hi hk
         have hvi : vs[i]? = some (vs[i]'(by omega)):=List.getElem?_eq_getElem (by omega)
         obtain ⟨cs,h1,h2,_⟩:=hv2 i _ hvi
         obtain ⟨_,h3,h4⟩:=World.cells?_some h1
         have h5:=h4 k (by omega)
         rw [hsz] at h5 h3
         have hcs : cs[k]? = some (cs[k]'(by omega)):=List.getElem?_eq_getElem (by omega)
         have hlen2:=cells_len c (vs[i]'(by omega))
         have hx : (cells c (vs[i]'(by omega)))[k]? = some ((cells c (vs[i]'(by omega)))[k]'(by omega)):=List.getElem?_eq_getElem (by omega)
         refine ⟨cs[k]'(by omega),?_,(h2.get k _ _ hx hcs).2,fun r x hr hx2 => ?_⟩
         ·rw [VM.add_add] at h5
          rw [h5,hcs]
         ·simp only [List.getElem?_map,hvi,Option.map_some,Option.some.injEq] at hr
          subst hr
          exact (h2.get k _ _ hx2 hcs).1
        have hlv : (vs.map (cells c)).length = len + 1:=by simp [hv1]
        rw [← hlv]
        refine .arr _ a cap c.size (fun i k => (W.cell? (a.add (i * c.size + k))).getD undef) hpos (by omega) ?_ ?_ ?_ ?_ ?_
        ·intro r hr
         obtain ⟨v,_,rfl⟩:=List.mem_map.1 hr
         exact cells_len c v
        ·obtain ⟨u,hu,_⟩:=hcell 0 0 (by omega) hpos
         have:=cell_low hu
         rwa [add_block] at this
        ·intro i k hi hk
         obtain ⟨u,hu,_⟩:=hcell i k (by omega) hk
         simp [hu]
        ·intro i k hi hk
         obtain ⟨u,hu,h1,_⟩:=hcell i k (by omega) hk
         simpa [hu] using h1
        ·intro i r k x hr hx
         have hi : i < len + 1:=by
          have:=(List.getElem?_eq_some_iff.1 hr).1
          omega
         have hk : k < c.size:=by
          have h1:=(List.getElem?_eq_some_iff.1 hx).1
          obtain ⟨v,_,rfl⟩:=List.mem_map.1 (List.mem_of_getElem? hr)
          rw [cells_len] at h1
          exact h1
         obtain ⟨u,hu,_,h1⟩:=hcell i k hi hk
         simpa [hu] using h1 r x hr hx
      ·simp only [DataW.weights,ht,List.all_cons,List.all_append,Bool.and_eq_true,decide_eq_true_eq,List.length_map] at hw
       refine ⟨?_,fun x hx => ?_⟩
       ·show vs.length * P.bytesOf e ≤ reachBytes
        rw [hv1,← hlen]
        exact Nat.le_trans (Nat.mul_le_mul_right _ (by omega)) hw.1
       ·obtain ⟨i,hi⟩:=List.mem_iff_getElem?.1 (show x ∈ vs from hx)
        obtain ⟨_,_,_,h1⟩:=hv2 i x hi
        have hil : i < len:=by have:=(List.getElem?_eq_some_iff.1 hi).1;omega
        have hy : elems[i]? = some (elems[i]'(by omega)):=List.getElem?_eq_getElem (by omega)
        exact h1 _ hy (weightsAll_get hw.2.1 _ (List.mem_map.2 ⟨_,List.mem_of_getElem? hy,rfl⟩))
    ·cases h
   ·cases h
  ·rename_i fs ht
   split at h
   ·rename_i c hc
    split at h
    ·rename_i hsz
     cases h
     have hsz:=Nat.eq_of_beq_eq_true hsz
     obtain ⟨xs,m',rfl,he,hlen,hxl,hx⟩:=DataW.trod_struct ht hr
     cases he
     obtain ⟨v,h1,h2⟩:=open_flds (fun t tc htc => open_cells n t tc htc m') fs.toList 0 _ hc xs (by simpa using hxl) (fun i f hf => hx i f (by simpa using hf))
     refine ⟨v,?_,fun hw => h2 ?_⟩
     ·rw [← hsz,← hlen] at h1
      simpa using h1
     ·simpa only [DataW.weights,ht] using hw
    ·cases h
   ·cases h
  ·rename_i k e ht
   split at h
   ·rename_i c hc
    split at h
    ·rename_i hb
     cases h
     simp only [Bool.and_eq_true] at hb
     have hsz:=Nat.eq_of_beq_eq_true hb.1
     have hall:=Nat.eq_of_beq_eq_true hb.2
     obtain ⟨xs,m',rfl,he,hlen,hxl,hx⟩:=DataW.trod_array ht hr
     cases he
     obtain ⟨v,h1,h2⟩:=open_rep (open_cells n e c hc m') hsz k 0 xs hxl (fun i hi => by simpa using hx i hi)
     refine ⟨v,?_,fun hw => h2 ?_⟩
     ·rw [← hall,← hlen] at h1
      simpa using h1
     ·simpa only [DataW.weights,ht] using hw
    ·cases h
   ·cases h
  ·cases h
def Vals : List TC → Type
 | [] => Unit
 | t :: ts => Val t × Vals ts
def argsF : (ts : List TC) → Vals ts → List FV
 | [],_ => []
 | t :: ts,v => argF t v.1 :: argsF ts v.2
def wfs : (ts : List TC) → Vals ts → Prop
 | [],_ => True
 | t :: ts,v => wf t v.1 ∧ wfs ts v.2
def tcsB (P : Program) (E : Env) : List TypeId → List TC → Prop
 | [],[] => True
 | t :: ts,c :: cs => tcOf P 20 t = some c ∧ (E.ty t).isAgg = c.agg ∧ P.readableRec t = true ∧ t < P.types.size ∧ tcsB P E ts cs
 | _,_ => False
theorem flds_agg {f : TypeId → Option TC} : ∀ (l : List Field) (off : Nat) (c : TC),tcFlds P f l off = some c → c.agg = true
 | [],off,c,h => by simp only [tcFlds,Option.some.injEq] at h;subst h;rfl
 | x :: l,off,c,h => by
  simp only [tcFlds] at h
  split at h
  ·split at h
   ·split at h
    ·split at h
     ·cases h;rfl
     ·cases h
    ·cases h
   ·cases h
  ·cases h
theorem rep_agg (c : TC) : ∀ n,(rep n c).agg = true
 | 0 => rfl
 | _ + 1 => rfl
theorem outer {n base : Nat} {t : TypeId} {tc : TC} {v : Value} (h : tcOf P n t = some tc) (hv : Value.okWide P W .any base t v) : (tc.agg = true ∧ ∃ cs,v = .agg cs) ∨ (tc.agg = false ∧ v.cells = #[v] ∧ v.oneCell' = true):=by
 cases n with
 | zero => simp [tcOf] at h
 | succ n =>
  simp only [tcOf] at h
  split at h
  ·rename_i ht;cases h;obtain ⟨b,rfl⟩:=WideShapes.okWide_bool ht hv;exact .inr ⟨rfl,rfl,rfl⟩
  ·rename_i k ht;cases h;obtain ⟨b,rfl⟩:=WideShapes.okWide_int ht hv;exact .inr ⟨rfl,rfl,rfl⟩
  ·rename_i ht;cases h;obtain ⟨b,rfl⟩:=WideShapes.okWide_string ht hv;exact .inr ⟨rfl,rfl,rfl⟩
  ·rename_i e ht
   split at h
   ·split at h
    ·cases h;obtain ⟨a,l,c,rfl⟩:=WideShapes.okWide_slice ht hv;exact .inr ⟨rfl,rfl,rfl⟩
    ·cases h
   ·cases h
  ·rename_i fs ht
   split at h
   ·rename_i c hc
    split at h
    ·cases h
     simp only [Value.okWide,ht] at hv
     obtain ⟨cs,rfl,_⟩:=hv
     exact .inl ⟨flds_agg _ _ _ hc,cs,rfl⟩
    ·cases h
   ·cases h
  ·rename_i k e ht
   split at h
   ·split at h
    ·cases h
     simp only [Value.okWide,ht] at hv
     obtain ⟨cs,rfl,_⟩:=hv
     exact .inl ⟨rep_agg _ _,cs,rfl⟩
    ·cases h
   ·cases h
  ·cases h
theorem open_args {E : Env} {base : Nat} (hgl : GlobR W (Low W)) : ∀ (ts : List TypeId) (tcs : List TC) (vs : List Value) (ds : List (DataW Hh)) (ps : List MemPlace),DataW.TrodAll enc P W 0 (fun _ => true) true ts vs ds ps →
  (∀ (j : Nat) t v,ts[j]? = some t → vs[j]? = some v → Value.okWide P W .any base t v) → tcsB P E ts tcs → ∃ x : Vals tcs,ArgsR E W (Low W) ts (argsF tcs x) vs ∧ ((DataW.weightsEach P ts ds).all (· ≤ reachBytes) = true → wfs tcs x)
 | [],[],vs,ds,ps,h,hv,hc => by
  obtain ⟨rfl,rfl,rfl⟩:=ChangeShapes.trodAll_nil h
  exact ⟨(),⟨rfl,rfl,hgl,by simp⟩,fun _ => True.intro⟩
 | [],_ :: _,vs,ds,ps,h,hv,hc => hc.elim
 | _ :: _,[],vs,ds,ps,h,hv,hc => hc.elim
 | t :: ts,c :: tcs,vs,ds,ps,h,hv,hc => by
  obtain ⟨v,vs',d,ds',p,q,rfl,rfl,rfl,⟨fuel,h1⟩,h2⟩:=ChangeShapes.trodAll_cons h
  obtain ⟨hc1,hc2,_,_,hc3⟩:=hc
  obtain ⟨x2,⟨l1,l2,_,l3⟩,w2⟩:=open_args hgl ts tcs vs' ds' q h2 (fun j t v a b => hv (j + 1) t v (by simpa using a) (by simpa using b)) hc3
  obtain ⟨x1,r1,w1⟩:=open_cells 20 t c hc1 fuel _ _ _ h1
  have hfr : FR W (Low W) (argF c x1) v ∧ (c.agg = false → v.oneCell' = true):=by
   rcases outer hc1 (hv 0 t v rfl rfl) with ⟨ha,cs,rfl⟩ | ⟨ha,hcl,h1c⟩
   ·refine ⟨?_,fun h => by rw [ha] at h;cases h⟩
    have hr : CellsR W (Low W) (cells c x1) cs.toList:=r1
    simp only [argF,ha]
    have:=FR.agg (w:=W) (A:=Low W) (cells c x1) cs.toList hr.len (fun u hu => by
     obtain ⟨i,hi⟩:=List.mem_iff_getElem?.1 hu
     have hlt:=(List.getElem?_eq_some_iff.1 hi).1
     have hx : (cells c x1)[i]? = some ((cells c x1)[i]'(by rw [hr.len];exact hlt)):=List.getElem?_eq_getElem _
     exact (hr.get i _ _ hx hi).2) (fun k y u hy hu => (hr.get k y u hy hu).1)
    simpa using this
   ·rw [hcl] at r1
    have hlen:=r1.len
    simp only [argF,ha]
    match hx : cells c x1,r1 with
    | [x],r1 => exact ⟨r1.1.1,fun _ => h1c⟩
    | [],r1 => exact r1.elim
    | _ :: _ :: _,r1 => exact r1.2.elim
  refine ⟨(x1,x2),⟨by simp [argsF,l1],by simp [argsF,l2],hgl,?_⟩,fun hw => ?_⟩
  ·intro i t' x u ht hx hu
   cases i with
   | zero =>
    simp only [List.getElem?_cons_zero,Option.some.injEq,argsF] at ht hx hu
    subst ht;subst hx;subst hu
    exact ⟨hfr.1,fun h => hfr.2 (by rw [← hc2];exact h)⟩
   | succ i => exact l3 i t' x u (by simpa using ht) (by simpa [argsF] using hx) (by simpa using hu)
  ·simp only [DataW.weightsEach,List.all_append,Bool.and_eq_true] at hw
   exact ⟨w1 hw.1,w2 hw.2⟩
theorem trodAll_below {E : Env} {W' : World} (hl : laidOutB P = true) (hb : Below W.heap.size W W') : ∀ (ts : List TypeId) (tcs : List TC) (vs : List Value) (ds : List (DataW Hh)) (ps : List MemPlace),DataW.TrodAll enc P W 0 (fun _ => true) true ts vs ds ps → tcsB P E ts tcs →
  DataW.TrodAll enc P W' 0 (fun b => decide (b < W.heap.size)) true ts vs ds ps
 | [],tcs,vs,ds,ps,h,hc => by
  obtain ⟨rfl,rfl,rfl⟩:=ChangeShapes.trodAll_nil h
  exact rfl
 | t :: ts,[],vs,ds,ps,h,hc => hc.elim
 | t :: ts,c :: tcs,vs,ds,ps,h,hc => by
  obtain ⟨v,vs',d,ds',p,q,rfl,rfl,rfl,h1,h2⟩:=ChangeShapes.trodAll_cons h
  obtain ⟨_,_,hr,hs,hc3⟩:=hc
  have lt : ∀ x ∈ p,x.block < W.heap.size:=by obtain ⟨m,hm⟩:=h1;exact DataW.trod_lt m _ _ _ hm
  exact ⟨p,q,Below.trod hl hr hs h1 hb lt,trodAll_below hl hb ts tcs vs' ds' q h2 hc3,rfl⟩
theorem law_calls {E : Env} (ok : EnvOk P E) (ov : OvSpec P E) {g : Nat} {fn : Func} {rt : TypeId} {lend : Bool} {args : Array Value} {xs : List FV} (hm : E.mode g = .call [] lend) (hg : E.fn g = some fn) (hr : fn.resultTypes = #[rt]) (hnf : fn.nfree = 0)
  (h : den E g xs = some (.bool true)) (ha : ArgsR E W (Low W) fn.params.toList xs args.toList) : Calls P g args W fun e W' => e = .returned (.bool true) ∧ Below W.heap.size W W':=by
 obtain ⟨n,hn⟩:=den_some h
 have hpar : pars E fn = fn.params.toList:=by simp [pars,hnf]
 have:=(callF_sound ok normSpec (drawSpec ok) ov n).plain g xs _ [] lend fn hm hg hn args.toList W (Low W) (fun b hb => hb) (by rw [hpar];exact ha)
 simp only [Array.toArray_toList] at this
 refine this.mono fun e W' ⟨v,he,hret⟩ => ?_
 obtain ⟨A',us,ys,obs,_,_,_,hbel,hv,hy,hlen,hres,_,_⟩:=hret
 rw [hr] at hlen hres
 subst he
 refine ⟨?_,hbel⟩
 match ys,us,hlen,hres with
 | [y],[u],_,hres =>
  obtain ⟨o1,o2,_,h1,_⟩:=hres
  simp only [packF] at hy
  subst hy
  have hfr : FR W' A' (.bool true) u:=h1.1
  cases hfr with
  | bool _ => rw [hv];rfl
 | [y],[],_,hres => exact hres.elim
 | [y],_ :: _ :: _,_,hres => obtain ⟨_,_,_,_,h2⟩:=hres;exact h2.elim
end
end Go.Proofs.YtpffkpaiihcffaaGreatDoor.VM
