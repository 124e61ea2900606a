/- Steps of the proof: The map of cells by their places: its keys, how its elements read, what it holds; maps.DeleteFunc of the cells whose state is 0: the block holds the others; maps.Values of the map of cells: its iterator; slices.AppendSeq, slices.Collect over it. -/
import Derived.Test.YtpffkpaiihcffaaGreatDoorProg
import Derived.Test.YtpffkpaiihcffaaGreatDoorCel
import Derived.Maps.Own
import Derived.Maps.Range
import Derived.DeepKeys4
import Derived.KernelRfl
import Derived.Lib.SlMapFilter
import Derived.WalkKit
import Derived.Maps.Ext
import Derived.Maps.RangeWalk
import Derived.Laws.IdiomRangeMap
import Derived.Deep.LoopGhost
import Derived.Lib.Hide
import Derived.RangeFuncNested
import Derived.RangeFuncBound
import Derived.RangeFuncCalls
import Derived.RangeFuncLeaves
import Derived.RangeFuncBox
import Derived.Shelf.Abstract
import Derived.Shelf.AbstractIn
import Derived.Shelf.RegionOpen
import Derived.Sort.MapsRangeIn
import Derived.OwnWalkIn
import Derived.RegionIn
import Derived.TacticsInMore
import Derived.LoopNIn
import Derived.LoopIn
import Derived.Maps.AppendAt
set_option linter.unusedVariables false
section
namespace Go.Proofs.YtpffkpaiihcffaaGreatDoor
open Go Go.Proofs Go.Proofs.YtpffkpaiihcffaaGreatDoor.VM Go.RowKit Go.WideMaps Go.ChangeMaps Go.Maps Go.WideShapes
theorem laidOutK : laidOutB Tryz.prog = true:=by kernel_rfl
theorem row101 : (101 : TypeId) < Tryz.prog.types.size:=of_decide_eq_true (by kernel_rfl)
theorem wide101 : (match Tryz.prog.underlying 101 with | some (.array _ _) | some (.struct _) => true | _ => false) = true:=by rw [Tryz.underlying101]
theorem kt101 : Tryz.prog.keyTypeAt 2 101 = true:=by kernel_rfl
set_option maxRecDepth 10000 in
theorem law101 : KeyLaw Tryz.prog 101:=deep_law_laid (m:=2) laidOutK (by omega) row101 kt101 wide101
theorem keyed101 : Keyed Tryz.prog 101:=Keyed.of_law law101
theorem cellsOf101 : Tryz.prog.cellsOf 101 = 2:=by kernel_rfl
theorem cellsOf2 : Tryz.prog.cellsOf 2 = 1:=by kernel_rfl
theorem keyType101 : Tryz.prog.keyType 101 = true:=by kernel_rfl
theorem size_types : Tryz.prog.types.size = 235:=by kernel_rfl
abbrev keyV (c : Cel) : Value:=.agg #[.int .i64 c.1,.int .i64 c.2.1]
abbrev valV (c : Cel) : Value:=.agg #[.int .i64 c.1,.int .i64 c.2.1,.int .i64 c.2.2]
def keyL (c : Cel) : Lit:=.string (keyBytes [.int .i64 c.1,.int .i64 c.2.1])
def Rng (c : Cel) : Prop:=(Lit.int .i64 c.1).wf = true ∧ (Lit.int .i64 c.2.1).wf = true
theorem lits_int (n : Int) (m : Nat) (hn : (Lit.int .i64 n).wf = true) : Program.keyLits Tryz.prog (m + 1) 2 [.int .i64 n] = some [.int .i64 n]:=by
 simp only [Program.keyLits,Tryz.underlying2,hn,and_self,if_true]
set_option maxRecDepth 20000 in
theorem lits_cell {c : Cel} (h : Rng c) (m : Nat) : Program.keyLits Tryz.prog (m + 1 + 1) 101 [.int .i64 c.1,.int .i64 c.2.1] = some [.int .i64 c.1,.int .i64 c.2.1]:=by
 unfold Program.keyLits
 simp only [Tryz.underlying101,cellsOf101,cellsOf2,List.length_cons,List.length_nil,if_true]
 have r : List.range 2 = [0,1]:=rfl
 rw [r]
 simp only [List.mapM_cons,List.mapM_nil,Nat.zero_mul,Nat.one_mul,List.drop_zero,List.drop_succ_cons,List.take_succ_cons,List.take_zero,lits_int _ m h.1,lits_int _ m h.2]
 rfl
theorem keyOf_cell {c : Cel} (h : Rng c) : keyOf Tryz.prog 101 (keyV c) = some (keyL c):=by
 have hf : (keyV c).formed Tryz.prog 101 = true:=by simp [Value.formed,Tryz.underlying101,cellsOf101]
 simp only [keyOf,Tryz.underlying101,keyType101,hf,Bool.and_self,if_true]
 rw [size_types]
 exact congrArg (Option.map fun ls => Lit.string (keyBytes ls)) (lits_cell h 234)
theorem keyL_inj {c d : Cel} (hc : Rng c) (hd : Rng d) (h : keyL c = keyL d) : c.1 = d.1 ∧ c.2.1 = d.2.1:=by
 have:=keyed101.inj (keyOf_cell hc) (h ▸ keyOf_cell hd)
 simpa [keyV] using this
theorem keyL_key (c : Cel) : WideAt.IsKeyLit (keyL c):=by simp [keyL,WideAt.IsKeyLit]
theorem keyL_same {c d : Cel} (h : smC c d = true) : keyL c = keyL d:=by rw [smC_iff] at h;simp [keyL,h.1,h.2]
def cellD (c : Cel) : DataW Unit:=.agg [.lit (.int .i64 c.1),.lit (.int .i64 c.2.1),.lit (.int .i64 c.2.2)]
def cellR (v : Value) : Option (DataW Unit × List MemPlace):=match v with
 | .agg a => (match a.toList with | [.int .i64 x,.int .i64 y,.int .i64 s] => some (cellD (x,y,s),[]) | _ => none)
 | _ => none
theorem cellR_inv {v : Value} {z : DataW Unit × List MemPlace} (h : cellR v = some z) : ∃ c : Cel,v = valV c ∧ z = (cellD c,[]):=by
 unfold cellR at h
 split at h
 ·rename_i a
  split at h
  ·rename_i x y s ha
   cases h
   refine ⟨(x,y,s),?_,rfl⟩
   have : a = #[.int .i64 x,.int .i64 y,.int .i64 s]:=by rw [← Array.toList_inj];simpa using ha
   rw [this]
  ·cases h
 ·cases h
theorem cellD_inj {c d : Cel} (h : cellD c = cellD d) : c = d:=by
 simp only [cellD,DataW.agg.injEq,List.cons.injEq,DataW.lit.injEq,Lit.int.injEq,true_and,and_true] at h
 obtain ⟨h1,h2,h3⟩:=h
 exact Prod.ext h1 (Prod.ext h2 h3)
def entC (c : Cel) : Lit × DataW Unit:=(keyL c,cellD c)
def MapIs (w : World) (b n : Nat) (L : List Cel) : Prop:=∃ es,w.ownsMap Tryz.prog 101 cellR b n (.map es) ∧ es.Perm (L.map entC) ∧ ∀ c ∈ L,Rng c
theorem filter_ent {c : Cel} (hc : Rng c) : ∀ (L : List Cel),(∀ d ∈ L,Rng d) → (L.map entC).filter (notKey (keyL c)) = (L.filter fun d => !smC d c).map entC
 | [],_ => rfl
 | d :: L,h => by
  have ih:=filter_ent hc L fun e he => h e (List.mem_cons_of_mem _ he)
  have hk : notKey (keyL c) (entC d) = !smC d c:=by
   unfold notKey entC
   congr 1
   rw [Bool.eq_iff_iff,WideAt.sameKey_iff (keyL_key c),smC_iff]
   exact ⟨fun e => keyL_inj (h d (by simp)) hc e,fun e => keyL_same (smC_iff.2 e)⟩
  rw [List.map_cons,List.filter_cons,List.filter_cons,hk,ih]
  cases smC d c <;> rfl
theorem MapIs.put_perm {c : Cel} {L : List Cel} {es : List (Lit × DataW Unit)} (hc : Rng c) (hL : ∀ d ∈ L,Rng d) (h : es.Perm (L.map entC)) : (putKey (keyL c) (cellD c) es).Perm ((putC L c).map entC):=by
 unfold putKey putC
 rw [List.map_cons,← filter_ent hc L hL]
 exact (insert_perm _ _).trans ((h.filter _).cons _)
theorem putC_rng {c : Cel} {L : List Cel} (hc : Rng c) (hL : ∀ d ∈ L,Rng d) : ∀ d ∈ putC L c,Rng d:=by
 intro d hd
 rcases List.mem_cons.1 hd with rfl | hd
 ·exact hc
 ·exact hL d (List.mem_filter.1 hd).1
set_option maxRecDepth 20000 in
theorem lits_int_inv {n : Nat} {v : Value} {l : List Lit} (h : Program.keyLits Tryz.prog (n + 1) 2 [v] = some l) : ∃ x,v = .int .i64 x ∧ l = [.int .i64 x] ∧ (Lit.int .i64 x).wf = true:=by
 cases v with
 | int q' x =>
  simp only [Program.keyLits,Tryz.underlying2] at h
  split at h
  ·rename_i hc
   obtain ⟨rfl,hw⟩:=hc
   cases h
   exact ⟨_,rfl,rfl,hw⟩
  ·cases h
 | _ => simp [Program.keyLits,Tryz.underlying2] at h
set_option maxRecDepth 20000 in
theorem lits_inv {n : Nat} {a b : Value} {ls : List Lit} (h1 : Program.keyLits Tryz.prog (n + 1 + 1) 101 [a,b] = some ls) : ∃ p : Int × Int,a = .int .i64 p.1 ∧ b = .int .i64 p.2 ∧ ls = [.int .i64 p.1,.int .i64 p.2] ∧ Rng (p.1,p.2,0):=by
 unfold Program.keyLits at h1
 simp only [Tryz.underlying101,cellsOf101,cellsOf2,List.length_cons,List.length_nil,if_true] at h1
 have r : List.range 2 = [0,1]:=rfl
 rw [r] at h1
 simp only [List.mapM_cons,List.mapM_nil,Nat.zero_mul,Nat.one_mul,List.drop_zero,List.drop_succ_cons,List.take_succ_cons,List.take_zero] at h1
 cases ha : Program.keyLits Tryz.prog (n + 1) 2 [a] with
 | none => rw [ha] at h1;cases h1
 | some la =>
  cases hb : Program.keyLits Tryz.prog (n + 1) 2 [b] with
  | none => rw [ha,hb] at h1;cases h1
  | some lb =>
   rw [ha,hb] at h1
   obtain ⟨x,rfl,rfl,hx⟩:=lits_int_inv ha
   obtain ⟨y,rfl,rfl,hy⟩:=lits_int_inv hb
   cases h1
   exact ⟨(x,y),rfl,rfl,rfl,hx,hy⟩
theorem two_cells {cs : Array Value} (h : (Value.agg cs).formed Tryz.prog 101 = true) : ∃ a b,cs = #[a,b]:=by
 have h2 : (cs.size == Tryz.prog.cellsOf 101) = true:=by
  have e : (Value.agg cs).formed Tryz.prog 101 = (cs.size == Tryz.prog.cellsOf 101):=by unfold Value.formed;rw [Tryz.underlying101]
  rw [← e];exact h
 rw [cellsOf101] at h2
 obtain ⟨cs⟩:=cs
 have h3 : cs.length = 2:=by simpa using h2
 clear h h2
 rcases cs with _ | ⟨a,_ | ⟨b,_ | ⟨c,l⟩⟩⟩
 ·cases h3
 ·cases h3
 ·exact ⟨a,b,rfl⟩
 ·simp only [List.length_cons] at h3;omega
set_option maxRecDepth 20000 in
theorem keyOf_inv {v : Value} {l : Lit} (h : keyOf Tryz.prog 101 v = some l) : ∃ p : Int × Int,v = .agg #[.int .i64 p.1,.int .i64 p.2] ∧ l = keyL (p.1,p.2,0) ∧ Rng (p.1,p.2,0):=by
 have e : keyOf Tryz.prog 101 v = if v.formed Tryz.prog 101 then (Tryz.prog.keyLits (235 + 1) 101 v.cells.toList).map fun ls => .string (keyBytes ls) else none:=by
  unfold keyOf
  rw [Tryz.underlying101,keyType101,Bool.true_and,size_types]
 rw [e] at h
 split at h
 ·rename_i hf
  cases v with
  | agg cs =>
   obtain ⟨a,b,rfl⟩:=two_cells hf
   cases hl : Tryz.prog.keyLits (235 + 1) 101 (Value.agg #[a,b]).cells.toList with
   | none => rw [hl] at h;cases h
   | some ls =>
    rw [hl] at h
    obtain ⟨p,rfl,rfl,rfl,hr⟩:=lits_inv (n:=234) hl
    cases h
    exact ⟨p,rfl,rfl,hr⟩
  | tuple cs => cases hf
  | _ => simp [Value.formed,Tryz.underlying101] at hf
 ·cases h
end Go.Proofs.YtpffkpaiihcffaaGreatDoor
end
section
namespace Go.Proofs.YtpffkpaiihcffaaGreatDoor
open Go Go.Proofs Go.Proofs.YtpffkpaiihcffaaGreatDoor.VM Go.RowKit Go.Maps
def pdC : Lit → DataW Unit → Bool
 | _,.agg [_,_,.lit (.int _ s)] => decide (s = 0)
 | _,_ => false
theorem pdC_cell (l : Lit) (c : Cel) : pdC l (cellD c) = decide (c.2.2 = 0):=rfl
theorem zero_at (p : Int × Int) (c : Cel) (W : World) : Calls Tryz.prog 67 #[.agg #[.int .i64 p.1,.int .i64 p.2],valV c] W fun e w' => e = .returned (.bool (decide (c.2.2 = 0))) ∧ W.grownBy w' none:=by
 go_enter Tryz.func67,Tryz.ntmps67
 go_wp2
 go_ret
 exact ⟨rfl,(World.grownBy_alloc _ _ none).andThen (World.grownBy_alloc _ _ none) (fun j h => by cases h)⟩
theorem valV_inj {c d : Cel} (h : valV c = valV d) : c = d:=by
 simp only [valV,Value.agg.injEq,Array.mk.injEq,List.cons.injEq,Value.int.injEq,true_and,and_true] at h
 exact Prod.ext h.1 (Prod.ext h.2.1 h.2.2)
theorem pdC_at {c : Cel} {v : Value} {z : DataW Unit × List MemPlace} (l : Lit) (hv : cellR v = some z) (h : v = valV c) : pdC l z.1 = decide (c.2.2 = 0):=by
 obtain ⟨d,hd,rfl⟩:=cellR_inv hv
 obtain rfl:=valV_inj (h ▸ hd)
 exact pdC_cell l _
theorem zero_yes (x1 x2 c1 c2 : Int) (W : World) : Calls Tryz.prog 67 #[.agg #[.int .i64 x1,.int .i64 x2],.agg #[.int .i64 c1,.int .i64 c2,.int .i64 0]] W fun e w' => e = .returned (.bool true) ∧ W.grownBy w' none:=zero_at (x1,x2) (c1,c2,0) W
theorem zero_no (x1 x2 c1 c2 c3 : Int) (h : decide (c3 = 0) = false) (W : World) : Calls Tryz.prog 67 #[.agg #[.int .i64 x1,.int .i64 x2],.agg #[.int .i64 c1,.int .i64 c2,.int .i64 c3]] W fun e w' => e = .returned (.bool false) ∧ W.grownBy w' none:=by
 have:=zero_at (x1,x2) (c1,c2,c3) W
 simp only [h] at this
 exact this
set_option maxHeartbeats 4000000 in
set_option maxRecDepth 100000 in
theorem delete_zeros (b n : Nat) (D : DataW Unit) (w : World) (hown : w.ownsMap Tryz.prog 101 cellR b n D) :
  Calls Tryz.prog 66 #[.map (some b),.func (.func 67) #[] #[]] w fun e w' => e = .returned (.tuple #[]) ∧ w'.ownsMap Tryz.prog 101 cellR b n (Lib.deleteFuncD pdC D) ∧ w.grownBy w' (some b):=by
 obtain ⟨es0,rfl,hap,hkeys⟩:=hown.entries keyed101
 go_enter Tryz.func66,Tryz.ntmps66
 go_wp2_with (first
  | (at_range;refine wpList_range_own _ rfl _ 111 rfl 101 53 keyed101 Tryz.underlying111 cellR b n _ rfl hown ?_;intro w0 hrg0 hg0 hs0)
  | go_in)
 go_frame
 go_loopw [8] (fun _ wr => ∃ (left : Lit → Bool) (cnt : Nat),wr.ranges Tryz.prog 101 cellR b w.heap.size n (Fk pdC es0 left) left cnt ∧ w.grownBy wr (some b))
  (fun _ wr => wr.rangeLeft b w.heap.size)
 case atStart => exact ⟨_,_,by rw [Fk_start hkeys];exact hrg0,hg0.but _⟩
 case round =>
  obtain ⟨left,cnt,hrg,hgw⟩:=hrel
  go_wp2_with (first
   | (at_next;refine wpList_next_ranges _ rfl _ rfl 101 keyed101 cellR (fun p : Int × Int => .agg #[.int .i64 p.1,.int .i64 p.2]) valV (fun key kl hk => by obtain ⟨p,hp,_⟩:=keyOf_inv hk;exact ⟨p,hp⟩) (fun v z hv => by obtain ⟨c,hc,_⟩:=cellR_inv hv;exact ⟨c,hc⟩) b w.heap.size n _ _ _ rfl hrg ?_ ?_)
   | go_in)
  ·intro _ hl0
   go_wp2
   go_end0
   exact ⟨rfl,by rw [← Fk_end hl0];exact hrg.owns,hgw⟩
  ·intro x1 x2 c1 c2 c3 kl yd yp w1 cnt1 hkey hlx hv hat hrg1 hlt hg1 hs1 hen
   have hgw1:=hgw.andThen hg1 (fun j hj => by cases hj;exact Or.inl (Nat.le_refl _))
   have hbl:=hrg1.owns.lt
   have hrl:=hrg1.lt
   have HK:=Lib.hid hkey;clear hkey
   have HV:=Lib.hid hv;clear hv
   have HA:=Lib.hid hat;clear hat
   have HP:=Lib.hid hap;clear hap
   have HX:=Lib.hid hlx;clear hlx
   have HE:=Lib.hid hkeys;clear hkeys
   have hrgl:=hrg.left_eq
   have HL:=Lib.hid hrgl;clear hrgl
   clear hrg hrg0 hown hg0
   have two : ∀ {A B : Obj} {w2 : World},((w1.alloc A).alloc B).grownBy w2 none → w1.grownBy w2 none:=fun h => ((World.grownBy_alloc _ _ none).andThen (World.grownBy_alloc _ _ none) (fun j h => by cases h)).andThen h (fun j h => by cases h)
   by_cases h0 : c3 = 0
   ·subst h0
    go_wp2_with fail
    refine (zero_yes x1 x2 c1 c2 _).mono ?_
    rintro e w2 ⟨rfl,hg2⟩
    have hg3:=two hg2
    have hrg2:=hrg1.kept hg3 (by simp) (by simp)
    have k0 : w2.cell? ⟨wr.heap.size,0,none⟩ = some (.int .i64 x1):=hg2.cell (by rw [← hs1];simp) (by simp)
    have k1 : w2.cell? ⟨wr.heap.size,1,none⟩ = some (.int .i64 x2):=hg2.cell (by rw [← hs1];simp) (by simp)
    go_wp2_with (first
     | (at_delete;refine wpList_delete_ranges _ rfl _ _ 111 101 rfl 53 keyed101 Tryz.underlying111 cellR b w.heap.size n _ _ _ rfl hrg2 _ _ rfl HK.out ?_;intro w3 cnt3 hrg3 hle hturn;go_frame)
     | go_in)
    rw [strike_twice] at hrg3
    go_roundw
    case rel =>
     refine ⟨fun z => left z && !z.sameKey kl,cnt3,?_,(hgw1.andThen hg3 (fun j hj => by cases hj)).andThen hturn.grown (fun j hj => by cases hj;exact Or.inr rfl)⟩
     have hkk:=keyed101.key HK.out
     rw [← Fk_struck HP.out hkk HX.out (pdC_at (c:=(c1,c2,0)) _ HV.out rfl) HA.out]
     exact hrg3
    case measure => rw [hrg3.left_eq,HL.out];omega
   ·have h1 : decide (c3 = 0) = false:=by simpa using h0
    clear h0
    go_wp2_with fail
    refine (zero_no x1 x2 c1 c2 c3 h1 _).mono ?_
    rintro e w2 ⟨rfl,hg2⟩
    have hg3:=two hg2
    have hrg2:=hrg1.kept hg3 (by simp) (by simp)
    go_wp2
    go_roundw
    case rel =>
     refine ⟨fun z => left z && !z.sameKey kl,cnt1,?_,hgw1.andThen hg3 (fun j hj => by cases hj)⟩
     have hkk:=keyed101.key HK.out
     rw [← Fk_stays HP.out hkk HX.out ((pdC_at (c:=(c1,c2,c3)) _ HV.out rfl).trans h1) HA.out]
     exact hrg2
    case measure => rw [hrg2.left_eq,HL.out];exact hlt
end Go.Proofs.YtpffkpaiihcffaaGreatDoor
end
section
namespace Go.Proofs.YtpffkpaiihcffaaGreatDoor
open Go Go.Proofs Go.Proofs.YtpffkpaiihcffaaGreatDoor.VM Go.RowKit Go.Shelf Go.Maps
attribute [local go_sem] Oper.semAt_some
def AllC (L xs : List Cel) : Prop:=ApartC xs ∧ ∀ c,c ∈ xs ↔ c ∈ L
def CameC (es : List (Lit × DataW Unit)) (left : Lit → Bool) (pre : List Cel) : Prop :=
 (∀ c ∈ pre,Rng c) ∧ ApartC pre ∧ (∀ z,(∃ c ∈ pre,keyL c = z) ↔ has (.map es) z = true ∧ left z = false) ∧ ∀ c ∈ pre,∀ zd,(DataW.map es).atKey (keyL c) zd = cellD c
theorem CameC.start (es : List (Lit × DataW Unit)) : CameC es (has (.map es)) []:=⟨by simp,List.Pairwise.nil,fun z => by cases has (DataW.map es) z <;> simp,by simp⟩
theorem apart_key {c d : Cel} (hc : Rng c) (hd : Rng d) : smC c d = false ↔ keyL c ≠ keyL d:=by
 constructor
 ·intro h e
  have:=keyL_inj hc hd e
  rw [smC_no] at h
  exact h this
 ·intro h
  cases hs : smC c d with
  | false => rfl
  | true => exact absurd (keyL_same hs) h
theorem CameC.step {es : List (Lit × DataW Unit)} {left : Lit → Bool} {pre : List Cel} (h : CameC es left pre) {c : Cel} (hr : Rng c) (hl : left (keyL c) = true) (hat : ∀ zd,(DataW.map es).atKey (keyL c) zd = cellD c) :
  CameC es (fun z => left z && !z.sameKey (keyL c)) (pre ++ [c]):=by
 obtain ⟨h1,h2,h3,h4⟩:=h
 have hhas : has (.map es) (keyL c) = true:=has_true_of_atKey hat
 have hnew : ∀ d ∈ pre,keyL d ≠ keyL c:=fun d hd e => by
  have:=((h3 (keyL c)).1 ⟨d,hd,e⟩).2
  rw [hl] at this;cases this
 refine ⟨fun d hd => ?_,List.pairwise_append.2 ⟨h2,by simp,fun a ha b hb => ?_⟩,fun z => ?_,fun d hd => ?_⟩
 ·rcases List.mem_append.1 hd with hd | hd
  ·exact h1 d hd
  ·simp only [List.mem_singleton] at hd;subst hd;exact hr
 ·simp only [List.mem_singleton] at hb;subst hb
  exact (apart_key (h1 a ha) hr).2 (hnew a ha)
 ·have e : z.sameKey (keyL c) = true ↔ z = keyL c:=WideAt.sameKey_iff (keyL_key c)
  by_cases hz : z = keyL c
  ·subst hz
   simp [hhas,WideAt.sameKey_self (keyL_key c)]
  ·have e2 : z.sameKey (keyL c) = false:=by cases hs : z.sameKey (keyL c) with
    | false => rfl
    | true => exact absurd (e.1 hs) hz
   show _ ↔ has (DataW.map es) z = true ∧ (left z && !z.sameKey (keyL c)) = false
   rw [e2]
   simp only [Bool.not_false,Bool.and_true]
   rw [← h3 z]
   constructor
   ·rintro ⟨d,hd,he⟩
    rcases List.mem_append.1 hd with hd | hd
    ·exact ⟨d,hd,he⟩
    ·simp only [List.mem_singleton] at hd;subst hd;exact absurd he.symm hz
   ·rintro ⟨d,hd,he⟩;exact ⟨d,List.mem_append_left _ hd,he⟩
 ·rcases List.mem_append.1 hd with hd | hd
  ·exact h4 d hd
  ·simp only [List.mem_singleton] at hd;subst hd;exact hat
theorem CameC.all {es : List (Lit × DataW Unit)} {left : Lit → Bool} {pre L : List Cel} (h : CameC es left pre) (hl : ∀ z,left z = false) (hp : es.Perm (L.map entC)) (hap : es.Pairwise fun p q => p.1 ≠ q.1) (hr : ∀ c ∈ L,Rng c) : AllC L pre:=by
 obtain ⟨h1,h2,h3,h4⟩:=h
 have at_ : ∀ c ∈ L,(DataW.map es).atKey (keyL c) .nil = cellD c:=fun c hc => WideAt.atKey_mem .nil (keyL_key c) hap (hp.mem_iff.2 (List.mem_map.2 ⟨c,hc,rfl⟩))
 refine ⟨h2,fun c => ⟨fun hc => ?_,fun hc => ?_⟩⟩
 ·have:=((h3 (keyL c)).1 ⟨c,hc,rfl⟩).1
  obtain ⟨p,hpm,hk⟩:=List.any_eq_true.1 (show es.any (fun p => p.1.sameKey (keyL c)) = true from this)
  obtain ⟨d,hd,rfl⟩:=List.mem_map.1 (hp.mem_iff.1 hpm)
  have ek : keyL d = keyL c:=WideAt.sameKey_eq hk
  have e1:=at_ d hd
  rw [ek,h4 c hc .nil] at e1
  rw [cellD_inj e1];exact hd
 ·have hh : has (.map es) (keyL c) = true:=List.any_eq_true.2 ⟨entC c,hp.mem_iff.2 (List.mem_map.2 ⟨c,hc,rfl⟩),WideAt.sameKey_self (keyL_key c)⟩
  obtain ⟨d,hd,ek⟩:=(h3 (keyL c)).2 ⟨hh,hl _⟩
  have e1:=h4 d hd .nil
  rw [ek,at_ c hc] at e1
  rw [cellD_inj e1];exact hd
theorem entry_of {es : List (Lit × DataW Unit)} {L : List Cel} {kl : Lit} {c : Cel} (hp : es.Perm (L.map entC)) (hap : es.Pairwise fun p q => p.1 ≠ q.1) (hr : ∀ c ∈ L,Rng c) (hat : ∀ zd,(DataW.map es).atKey kl zd = cellD c) : kl = keyL c ∧ Rng c:=by
 have hhas : has (.map es) kl = true:=has_true_of_atKey hat
 obtain ⟨p,hpm,hk⟩:=List.any_eq_true.1 (show es.any (fun p => p.1.sameKey kl) = true from hhas)
 obtain ⟨d,hd,rfl⟩:=List.mem_map.1 (hp.mem_iff.1 hpm)
 have ek : keyL d = kl:=WideAt.sameKey_eq hk
 have e1 : (DataW.map es).atKey (keyL d) .nil = cellD d:=WideAt.atKey_mem .nil (keyL_key d) hap hpm
 rw [ek,hat .nil] at e1
 have:=cellD_inj e1
 subst this
 exact ⟨ek.symm,hr _ hd⟩
set_option maxRecDepth 100000 in
set_option maxHeartbeats 2000000 in
theorem values1_in (F : Fence) (n : Nat) (h121 : F.fn 121) (hro : F.round = none) (hn : 1 ≤ n) (l Bm b nn : Nat) (es : List (Lit × DataW Unit)) (L : List Cel) (J Jx : List Cel → World → Prop)
  (hY : ∀ pre x W,J pre W → pre.length < es.length → YieldAt F (n - 1) Tryz.prog l #[valV x] W fun e W' =>
   (e = .returned (.bool true) ∧ J (pre ++ [x]) W' ∧ KeepsWalks W W') ∨ (e = .returned (.bool false) ∧ Jx (pre ++ [x]) W'))
  (W : World) (hJ : AbidesFrom W.heap.size J) (hm : W.cell? ⟨Bm,0,none⟩ = some (.map (some b))) (hown : W.ownsMap Tryz.prog 101 cellR b nn (.map es)) (hp : es.Perm (L.map entC)) (hr : ∀ c ∈ L,Rng c) (h0 : J [] W) :
  CallsIn F n Tryz.prog 121 #[.func (.yield l) #[] #[],.pointer (some ⟨Bm,0,none⟩)] W fun e W' => (∃ v,e = .returned v) ∧ ((∃ xs,AllC L xs ∧ J xs W') ∨ (∃ pre,True ∧ Jx pre W')):=by
 have HAP : Hid (es.Pairwise fun p q => p.1 ≠ q.1):=by
  obtain ⟨es',h1,h2,_⟩:=hown.entries keyed101
  cases h1
  exact Lib.hid h2
 have HR:=Lib.hid hr;clear hr
 refine callsIn_of_wp Tryz.func121 rfl h121 ?_ hro
 simp only [Tryz.ntmps121,List.size_toArray,List.length_cons,List.length_nil,Nat.reduceAdd,Nat.reduceSub,Array.replicate_succ,Array.replicate_zero,List.push_toArray,List.append_toArray,List.nil_append,List.cons_append]
 gi_wp2_with (first
  | (gi_at_range;refine wpListIn_range_own _ rfl _ 111 rfl 101 53 keyed101 Tryz.underlying111 cellR b nn _ rfl hown ?_;intro w0 hrg0 hg0 hs0)
  | gi_in)
 go_frame
 gi_loopw [4] (fun _ wr => ∃ (left : Lit → Bool) (cnt : Nat) (ps : List Cel),wr.ranges Tryz.prog 101 cellR b W.heap.size nn (.map es) left cnt ∧ ps.length + cnt ≤ es.length ∧ CameC es left ps ∧ J ps wr)
  (fun _ wr => wr.rangeLeft b W.heap.size)
 case atStart =>
  exact ⟨_,_,[],hrg0,by simp [size_eq],CameC.start es,hJ [] W w0 none h0 hg0 (fun r e => by cases e)⟩
 case round =>
  obtain ⟨left,cnt,ps,hrg,hcs,hC,hJs⟩:=hrel
  gi_wp2_with (first
   | (gi_at_next;refine wpListIn_next_ranges _ rfl _ rfl 101 keyed101 cellR (fun p : Int × Int => .agg #[.int .i64 p.1,.int .i64 p.2]) valV (fun key kl hk => by obtain ⟨p,hp,_⟩:=keyOf_inv hk;exact ⟨p,hp⟩) (fun v z hv => by obtain ⟨c,hc,_⟩:=cellR_inv hv;exact ⟨c,hc⟩) b W.heap.size nn _ _ _ rfl hrg ?_ ?_)
   | gi_in)
  ·intro hc0 hl0
   gi_wp2
   go_end0
   exact ⟨⟨_,rfl⟩,.inl ⟨ps,hC.all hl0 hp HAP.out HR.out,hJs⟩⟩
  ·intro x1 x2 c1 c2 c3 kl yd yp w2 cnt2 hkey hlk hv hat hrg2 hlt hg2 hs2 hen
   obtain ⟨c,hcv,hcz⟩:=cellR_inv hv
   have hcd : c = (c1,c2,c3):=by
    simp only [valV,Value.agg.injEq,Array.mk.injEq,List.cons.injEq,Value.int.injEq,true_and,and_true] at hcv
    exact Prod.ext hcv.1.symm (Prod.ext hcv.2.1.symm hcv.2.2.symm)
   have hyd : yd = cellD (c1,c2,c3):=by rw [← hcd];exact congrArg Prod.fst hcz
   obtain ⟨hkc,hrc⟩:=entry_of (c:=(c1,c2,c3)) hp HAP.out HR.out (fun zd => (hat zd).trans hyd)
   have HC2:=Lib.hid (hC.step hrc (hkc ▸ hlk) (hkc ▸ fun zd => (hat zd).trans hyd))
   have HK:=Lib.hid hkc
   clear hkc hkey hlk hv hat hcv hcz hcd hyd hC hrc
   have hJ2 : J ps w2:=hJ ps wr w2 (some W.heap.size) hJs hg2 (fun r e => by cases e;exact ⟨Nat.le_refl _,hrg.iter_walk⟩)
   have hJ3 : J ps (w2.alloc (.cells #[.int .i64 c1,.int .i64 c2,.int .i64 c3] 53)):=hJ ps w2 _ none hJ2 (World.grownBy_alloc _ _ none) (fun r e => by cases e)
   obtain ⟨fn,tmps,assign,body,hy,hR⟩:=hY ps (c1,c2,c3) _ hJ3 (by omega)
   have HL:=Lib.hid hrg.left_eq
   clear hs2 hrg hJ2 hJ3
   gi_wp2
   refine hR.mono ?_
   rintro e W3 (⟨rfl,hJ4,hk4⟩ | ⟨rfl,hJx4⟩)
   ·gi_wp2
    have hrg3:=(hrg2.alloc (.cells #[.int .i64 c1,.int .i64 c2,.int .i64 c3] 53)).of_walks hk4
    go_roundw
    case rel => exact ⟨_,cnt2,ps ++ [(c1,c2,c3)],hrg3,by simp;omega,by rw [HK.out];exact HC2.out,hJ4⟩
    case measure => rw [hrg3.left_eq,HL.out];exact hlt
   ·gi_wp2
    refine bodyPost_ret (results_none rfl _ _ _) rfl ?_
    exact ⟨⟨_,rfl⟩,.inr ⟨_,trivial,hJx4⟩⟩
theorem values_stops (F : Fence) (n : Nat) (h121 : F.fn 121) (hro : F.round = none) (hn : 1 ≤ n) (Bm b nn : Nat) (es : List (Lit × DataW Unit)) (L : List Cel) (w : World) (hBm : Bm < w.heap.size)
  (hm : w.cell? ⟨Bm,0,none⟩ = some (.map (some b))) (hown : w.ownsMap Tryz.prog 101 cellR b nn (.map es)) (hp : es.Perm (L.map entC)) (hr : ∀ c ∈ L,Rng c) :
  SeqStopsK F n Tryz.prog 121 #[.pointer (some ⟨Bm,0,none⟩)] (fun c : Cel => #[valV c]) KeepsWalks (AllC L) (fun _ => True) es.length w:=fun l J Jx W hW hJ hJx hY h0 => by
 have hown' : W.ownsMap Tryz.prog 101 cellR b nn (.map es):=by
  have hbl:=hown.lt
  obtain ⟨es,clock,hb,Ft,hs,hD⟩:=hown
  exact ⟨es,clock,(hW.block b hbl).trans hb,Ft,hs,hD⟩
 exact values1_in F n h121 hro hn l Bm b nn es L J Jx hY W hJ ((hW.cell (p:=⟨Bm,0,none⟩) hBm).trans hm) hown' hp hr h0
theorem values_in (F : Fence) (n : Nat) (h : F.fn 102) (hro : F.round = none) (mb : Option Nat) (w : World) :
  CallsIn F n Tryz.prog 102 #[.map mb] w fun e w' => e = .returned (.func (.func 121) #[] #[.pointer (some ⟨w.heap.size,0,none⟩)]) ∧ w' = w.alloc (.cells #[.map mb] 111):=by
 refine callsIn_of_wp Tryz.func102 rfl h ?_ hro
 simp only [Tryz.ntmps102,List.size_toArray,List.length_cons,List.length_nil,Nat.reduceAdd,Nat.reduceSub,Array.replicate_succ,Array.replicate_zero,List.push_toArray,List.append_toArray,List.nil_append,List.cons_append]
 gi_wp2
 go_ret
 exact ⟨rfl,rfl⟩
def encK (c : Cel) : List Value:=[.int .i64 c.1,.int .i64 c.2.1,.int .i64 c.2.2]
theorem infoC : (Tryz.prog.info? 53).map (fun i => (i.zero,i.size,i.bytes)) = some (some (.agg #[.int .i64 0,.int .i64 0,.int .i64 0]),3,24):=by kernel_rfl
def Box3 (W : World) (B : Nat) (c : Cel) : Prop:=W.heap[B]? = some (.cells #[.int .i64 c.1,.int .i64 c.2.1,.int .i64 c.2.2] 53 (0,0))
theorem box3_own (B : Nat) (c : Cel) : Own (fun (_ : Unit) W => Box3 W B c):=fun s X Y row hs hg hrow => by
 refine (hg.block B (Array.getElem?_eq_some_iff.1 hs).1 (fun e' => ?_)).trans hs
 obtain ⟨o,ho,hc⟩:=hrow B e'.symm
 rw [show X.heap[B]? = _ from hs] at ho;cases ho;cases hc
theorem cell_three_new (W : World) (a b c : Value) (t : TypeId) : ∀ (j : Nat) (u : Value),[a,b,c][j]? = some u → (W.alloc (.cells #[a,b,c] t)).cell? ((⟨W.heap.size,0,none⟩ : Addr).add j) = some u
 | 0,u,h => by cases h;simp [Addr.add]
 | 1,u,h => by cases h;simp [Addr.add]
 | 2,u,h => by cases h;simp [Addr.add]
 | j + 3,u,h => by simp at h
theorem Box3.cells {W : World} {B : Nat} {c : Cel} (h : Box3 W B c) : W.cell? ⟨B,0,none⟩ = some (.int .i64 c.1) ∧ W.cell? ⟨B,1,none⟩ = some (.int .i64 c.2.1) ∧ W.cell? ⟨B,2,none⟩ = some (.int .i64 c.2.2):=by
 unfold Box3 at h
 simp [World.cell?,h]
set_option maxRecDepth 100000 in
set_option maxHeartbeats 4000000 in
theorem appendSeq_in (F : Fence) (n : Nat) (h132 : F.fn 132) (hro : F.round = none) (hn : 3 ≤ n) (g : Nat) (lb : Array Value) (hFg : F.fn g) (eg : ∀ args w,(callFunc g args).run Tryz.prog w = .ok (.enter g args) w)
  (S : List Cel → Prop) (N : Nat) (hN : N ≤ maxLen) (hNb : N * 24 ≤ 140737488355328) (w : World) (hseq : SeqStopsK F (n - 1) Tryz.prog g lb (fun c : Cel => #[valV c]) KeepsWalks S (fun _ => True) N w) :
  CallsIn F n Tryz.prog 132 #[.slice none 0 0,.func (.func g) #[] lb] w fun e w' => ∃ (v : Value) (xs : List Cel),e = .returned v ∧ S xs ∧ w'.ownsRow w.heap.size 53 3 v xs.length (xs.flatMap encK) ∧ (v = .slice none 0 0 ↔ xs = []) ∧ Below w.heap.size w w':=by
 have h1 : 1 ≤ n:=by omega
 obtain ⟨i0,hi,hz0,hz1,hz2⟩:=info_parts infoC
 refine callsIn_of_wp_marks Tryz.func132 rfl h132 ?_ hro
 simp only [Tryz.ntmps132,List.size_toArray,List.length_cons,List.length_nil,Nat.reduceAdd,Nat.reduceSub,Array.replicate_succ,Array.replicate_zero,List.push_toArray,List.append_toArray,List.nil_append,List.cons_append]
 gi_wp2
 have hB0 : Below w.heap.size w (w.alloc (.cells #[.slice none 0 0] 24)):=(Below.refl _ w).alloc (Nat.le_refl _) _
 obtain ⟨W0,hW0⟩ : ∃ W0,w.alloc (.cells #[.slice none 0 0] 24) = W0:=⟨_,rfl⟩
 have hs0 : W0.heap.size = w.heap.size + 1:=by rw [← hW0];simp
 have bS : Boxed W0 w.heap.size 24 (.slice none 0 0):=by rw [← hW0];exact Boxed.new w 24 _
 rw [hW0] at hB0
 rw [hW0]
 clear hW0
 refine wpIn_rangeFunc_ownH hro h1 (gf:=g) (lb:=lb) rfl hFg eg hseq walksK_t walksK_b hB0 (fun _ => rfl)
  (fun pre W => (∃ v,Boxed W w.heap.size 24 v ∧ W.ownsRow w.heap.size 53 3 v pre.length (pre.flatMap encK) ∧ (v = .slice none 0 0 ↔ pre = [])) ∧ Below w.heap.size w W)
  (fun _ _ _ => False)
  (OwnFrom.and (Own.from (holdsRow_own w.heap.size w.heap.size 24 53 3 (fun pre : List Cel => pre.length) (fun pre => pre.flatMap encK) (fun pre v => v = .slice none 0 0 ↔ pre = [])) _) (ownFrom_below (Nat.le_refl _) (by omega)))
  (fun _ _ _ _ _ hs _ _ => hs)
  ⟨⟨_,bS,World.ownsRow_nil _ _ _ _,by simp⟩,hB0⟩
  (fun x a' W => ∃ Bx,w.heap.size < Bx ∧ Box3 W Bx x ∧ a' = { tmps:=#[.slice none 0 0,.func (.func g) #[] lb,.pointer (some ⟨w.heap.size,0,none⟩),undef,.slice none 0 0,.pointer (some ⟨Bx,0,none⟩),.func (.func g) #[] lb,valV x,undef,undef,undef,undef,undef],defers:=[] })
  (fun x a' _ X Y row hs hg hr => by obtain ⟨Bx,h1,h2,h3⟩:=hs;exact ⟨Bx,h1,box3_own Bx x () X Y row h2 hg (fun r e => (hr r e).2),h3⟩)
  ?assign ?body ?done ?stop
 case assign =>
  rintro l pre ⟨c1,c2,c3⟩ W K ⟨⟨v,bS1,hrow,hnil⟩,hB1⟩ hK
  gi_wp2
  exact hK _ _ ((KeepsOthers.alloc _ _).from _) (KeepsOthers.alloc _ _).walks ⟨⟨v,bS1.alloc _,hrow.alloc _,hnil⟩,hB1.alloc hB1.size _⟩ ⟨W.heap.size,bS1.lt,World.alloc_heap_new W _,rfl⟩
 case body =>
  rintro l pre ⟨c1,c2,c3⟩ a' W hl ⟨r,hr⟩ ⟨⟨v,bS1,hrow,hnil⟩,hB1⟩ ⟨Bx,hBx,bX,rfl⟩ hlt
  have cS:=bS1.cell
  obtain ⟨d0,d1,d2⟩:=bX.cells
  gi_wp2_with (first
   | (gi_at_builtin;refine wpListIn_append_own _ rfl _ _ 24 rfl w.heap.size 53 i0 (.agg #[.int .i64 0,.int .i64 0,.int .i64 0]) 3 24 Tryz.underlying24 hi hz0 hz1 hz2 rfl (by decide) _ _ _ rfl (hrow.alloc _) ⟨W.heap.size,0,none⟩ 1 1 [.int .i64 c1,.int .i64 c2,.int .i64 c3] rfl rfl (cell_three_new _ _ _ _ _) (by simp [Value.oneCell']) (by omega) (by omega) (by have:=hB1.size;simp;omega) ?_;intro v' w1 hown' hgrow _;obtain ⟨g',cap',rfl⟩:=ownsRow_succ hown';obtain ⟨hv1,hv2,hr2,hk2,hb2⟩:=bS1.appended (by decide) hrow hB1.size (Nat.le_refl _) hown' hgrow;have hc1:=hv1.cell;have hf1:=hv1.frozen)
   | gi_in)
  have er : List.flatMap encK (pre ++ [(c1,c2,c3)]) = List.flatMap encK pre ++ [.int .i64 c1,.int .i64 c2,.int .i64 c3]:=by rw [List.flatMap_append];rfl
  exact ⟨hk2.from _,hk2.walks,⟨_,hv2,by rw [er,List.length_append];exact hr2,by simp⟩,hB1.trans hb2⟩
 case done =>
  rintro D xs W hD hS ⟨⟨v,bS1,hrow,hnil⟩,hB1⟩ hK
  have cS:=bS1.cell
  gi_wp2
  refine ⟨by simp,.inl ⟨_,_,rfl,run_takeDeferred hK,?_⟩⟩
  refine ⟨_,results_tmp rfl _ _ _,v,xs,rfl,hS,ownsRow_putObj hrow _ hK rfl,hnil,?_⟩
  exact hB1.trans (belowK_b (w:=w) (Nat.le_refl _) W D _ _ (by omega) hK rfl rfl)
 case stop =>
  rintro D c pre W _ _ h _
  exact h.elim
set_option maxHeartbeats 2000000 in
theorem collect_in (F : Fence) (n : Nat) (h119 : F.fn 119) (h132 : F.fn 132) (hro : F.round = none) (hn : 4 ≤ n) (g : Nat) (lb : Array Value) (hFg : F.fn g) (eg : ∀ args w,(callFunc g args).run Tryz.prog w = .ok (.enter g args) w)
  (S : List Cel → Prop) (N : Nat) (hN : N ≤ maxLen) (hNb : N * 24 ≤ 140737488355328) (w : World) (hseq : SeqStopsK F (n - 1 - 1) Tryz.prog g lb (fun c : Cel => #[valV c]) KeepsWalks S (fun _ => True) N w) :
  CallsIn F n Tryz.prog 119 #[.func (.func g) #[] lb] w fun e w' => ∃ (v : Value) (xs : List Cel),e = .returned v ∧ S xs ∧ w'.ownsRow w.heap.size 53 3 v xs.length (xs.flatMap encK) ∧ (v = .slice none 0 0 ↔ xs = []) ∧ Below w.heap.size w w':=by
 have h1 : 1 ≤ n:=by omega
 have e132 : ∀ args w,(callFunc 132 args).run Tryz.prog w = .ok (.enter 132 args) w:=enters_of Tryz.func132 (by kernel_rfl) rfl
 refine callsIn_of_wp Tryz.func119 rfl h119 ?_ hro
 simp only [Tryz.ntmps119,List.size_toArray,List.length_cons,List.length_nil,Nat.reduceAdd,Nat.reduceSub,Array.replicate_succ,Array.replicate_zero,List.push_toArray,List.append_toArray,List.nil_append,List.cons_append]
 gi_wp2_with (gi_at_fn 132;refine (appendSeq_in F (n - 1) h132 hro (by omega) g lb hFg eg S N hN hNb _ hseq).mono ?_;rintro e w' ⟨v,xs,rfl,hS,hrow,hnil,hb⟩)
 go_ret
 exact ⟨v,xs,rfl,hS,hrow,hnil,hb⟩
end Go.Proofs.YtpffkpaiihcffaaGreatDoor
end
