/- Steps of the proof: The small functions that cells.Canon and arm.read call, by the abstract machine without other answers; The order of cells: a call of cells.behind in whatever world; Calls of the small functions; the order of cells; the sort; slices.SortedFunc over maps.Values; cells.sorted: the values of the map of cells, in order. -/
import Derived.Test.YtpffkpaiihcffaaGreatDoorOks
import Derived.Test.YtpffkpaiihcffaaGreatDoorCodeZ0
import Derived.Test.YtpffkpaiihcffaaGreatDoorKit
import Derived.Test.YtpffkpaiihcffaaGreatDoorCel
import Derived.Test.YtpffkpaiihcffaaGreatDoorCanP
import Derived.WalkKit
import Derived.Sort.Grow
import Derived.Deep.RegionWith
import Derived.Deep.RegionHeld3
import Derived.StillTailTactics
import Derived.Test.YtpffkpaiihcffaaGreatDoorCanL
import Derived.Shelf.SlSortCmp.NoneTotal
import Derived.Test.YtpffkpaiihcffaaGreatDoorCallG
import Derived.Test.YtpffkpaiihcffaaGreatDoorNorm
import Derived.Test.YtpffkpaiihcffaaGreatDoorDraw8
set_option linter.unusedVariables false
set_option linter.unusedSimpArgs false
section
namespace Go.Proofs.YtpffkpaiihcffaaGreatDoor.Z
open Go Go.Proofs Go.Proofs.YtpffkpaiihcffaaGreatDoor.VM Go.RowKit
theorem far_z (c : Cel) : cells_far (.int .i64 c.1) (.int .i64 c.2.1) = some (.bool (farC c)):=by
 have h : field_Far (.int .i64 c.1) (.int .i64 c.2.1) = some (.bool (farC c)):=by
  rw [field_Far.eq]
  simp only [fBin_lss,fBin_gtr,bindO_s,fCond_b,farC]
  by_cases h1 : c.1 < -1073741824 <;> by_cases h2 : (1073741824 : Int) < c.1 <;> by_cases h3 : c.2.1 < -1073741824 <;> simp [h1,h2,h3]
 rw [cells_far.eq,h]
 rfl
theorem isState_z (s : Int) : cells_isState (.int .i64 0) (.int .i64 s) = some (.bool (stateC s)):=by
 rw [cells_isState.eq]
 simp only [fBin_eql,fBin_geq,fBin_lss,bindO_s,fCond_b,stateC]
 by_cases h : 0 ≤ s <;> simp [h]
theorem check_z (x : FV) : cells_Check (.agg [.int .i64 0,x]) = some (.int .i64 0):=by
 rw [cells_Check.eq]
 simp [cells_Check.L0_eq]
def cmpI (a b : Int) : Int:=if a < b then -1 else if b < a then 1 else 0
def behI (a b : Cel) : Int:=if cmpI a.2.1 b.2.1 ≠ 0 then cmpI a.2.1 b.2.1 else cmpI a.1 b.1
theorem nan_z (n : Int) : cmp_isNaN_int64 (.int .i64 n) = some (.bool false):=by
 rw [cmp_isNaN_int64.eq];simp
theorem compare_z (a b : Int) : cmp_Compare_int64 (.int .i64 a) (.int .i64 b) = some (.int .i64 (cmpI a b)):=by
 rw [cmp_Compare_int64.eq,nan_z,nan_z]
 simp only [fBin_gtr,fBin_lss,bindO_s,fCond_b,cmpI]
 by_cases h1 : a < b <;> by_cases h2 : b < a <;> simp [h1,h2]
theorem or_z (a b : Int) : cmp_Or_int (.arr [[.int .i64 a],[.int .i64 b]]) = some (.int .i64 (if a ≠ 0 then a else b)):=by
 have l2 : cmp_Or_int.L0 (.int .i64 0) (.arr [[.int .i64 a],[.int .i64 b]]) (.int .i64 2) (.int .i64 2) = some (.int .i64 0):=by rw [cmp_Or_int.L0_eq];simp
 have l1 : cmp_Or_int.L0 (.int .i64 0) (.arr [[.int .i64 a],[.int .i64 b]]) (.int .i64 2) (.int .i64 1) = some (.int .i64 b):=by
  rw [cmp_Or_int.L0_eq,show (1 : Int) = ((1 : Nat) : Int) from rfl,idx_arr (k:=1) (n:=1) rfl rfl,show ((1 : Nat) : Int) = (1 : Int) from rfl]
  simp only [fBin_lss,fBin_neq,fBin_add,bindO_s,fCond_b,List.getElem?_cons_zero,show IntKind.i64.wrap (1 + 1) = 2 from rfl,l2]
  by_cases h : b = 0 <;> simp [h]
 rw [cmp_Or_int.eq]
 simp only [fLen_arr,bindO_s,List.length_cons,List.length_nil]
 rw [cmp_Or_int.L0_eq,show (0 : Int) = ((0 : Nat) : Int) from rfl,idx_arr (k:=0) (n:=1) rfl rfl,show ((0 : Nat) : Int) = (0 : Int) from rfl]
 simp only [fBin_lss,fBin_neq,fBin_add,bindO_s,fCond_b,List.getElem?_cons_zero,show IntKind.i64.wrap (0 + 1) = 1 from rfl]
 change (if _ then (if decide (a ≠ 0) = true then some (FV.int .i64 a) else cmp_Or_int.L0 (.int .i64 0) (.arr [[.int .i64 a],[.int .i64 b]]) (.int .i64 2) (.int .i64 1)) else _) = _
 rw [l1]
 by_cases h : a = 0 <;> simp [h]
theorem behind_z (a b : Cel) : cells_behind (.agg (cellF a)) (.agg (cellF b)) = some (.int .i64 (behI a b)):=by
 have h : field_Behind (.agg (cellF a)) (.agg (cellF b)) = some (.int .i64 (behI a b)):=by
  rw [field_Behind.eq]
  simp [cellF,compare_z,or_z,behI]
 rw [cells_behind.eq]
 simp only [cellF,fIsAgg_agg,List.length_cons,List.length_nil,fCell_zero,fCell_succ] at h ⊢
 simp only [h,bindO_s]
 rfl
theorem behI_lt (a b : Cel) : decide (behI a b < 0) = befC a b:=by
 rw [Bool.eq_iff_iff,decide_eq_true_eq,befC_iff]
 unfold behI cmpI
 repeat' split
 all_goals omega
def wordT : List (List UInt8 × Int):=[([48,48,48,48],9),([48,48,48,49],10),([48,48,49],11),([48,49,48],12),([48,49,49],17),([49,48,48],18),([49,48,49],19),([49,49,48],20),([49,49,49],25)]
noncomputable def wordL (s j : Int) : R:=cells_Word.L0 (.int .i64 s) (.str [48,48,48,48]) (.int .i64 9) (.str [48,48,48,49]) (.int .i64 10) (.str [48,48,49]) (.int .i64 11) (.str [48,49,48]) (.int .i64 12) (.str [48,49,49]) (.int .i64 17) (.str [49,48,48]) (.int .i64 18) (.str [49,48,49]) (.int .i64 19) (.str [49,49,48]) (.int .i64 20) (.str [49,49,49]) (.int .i64 25) (.int .i64 j)
theorem word_end (s : Int) : wordL s 9 = some (.tup [.str [],.bool false]):=by
 unfold wordL
 rw [cells_Word.L0_eq]
 simp
theorem word_step (s : Int) (j : Nat) (p : List UInt8 × Int) (h : wordT[j]? = some p) : wordL s (j : Int) = if p.2 = s then some (.tup [.str (49 :: p.1),.bool true]) else wordL s ((j + 1 : Nat) : Int):=by
 have hj : j < 9:=(List.getElem?_eq_some_iff.1 h).1
 have ej : IntKind.i64.wrap ((j : Int) + 1) = ((j + 1 : Nat) : Int):=wrap64 (by omega) (by omega)
 unfold wordL
 rw [cells_Word.L0_eq]
 simp only [fBin_lss,bindO_s,fCond_b,asNat_nat,ej,fBin_add]
 rw [if_pos (by simp;omega)]
 have fs : ∀ b : List UInt8,b.length ≤ 9 → fBin .add (.str [49]) (.str b) = some (.str (49 :: b)):=fun b hb => by simp [fBin];omega
 match j,hj,h with
 | 0,_,h | 1,_,h | 2,_,h | 3,_,h | 4,_,h | 5,_,h | 6,_,h | 7,_,h | 8,_,h =>
  cases h
  simp [fs]
theorem word_z (s : Int) : ∃ w,cells_Word (.int .i64 s) = some (.tup [.str w,.bool (quietC s)]):=by
 rw [cells_Word.eq]
 change ∃ w,wordL s ((0 : Nat) : Int) = _
 rw [word_step s 0 _ rfl,word_step s 1 _ rfl,word_step s 2 _ rfl,word_step s 3 _ rfl,word_step s 4 _ rfl,word_step s 5 _ rfl,word_step s 6 _ rfl,word_step s 7 _ rfl,word_step s 8 _ rfl,show ((8 + 1 : Nat) : Int) = 9 from rfl,word_end]
 simp only [eq_comm (b:=s)]
 unfold quietC
 by_cases h0 : s = 9
 ·subst h0;exact ⟨_,rfl⟩
 by_cases h1 : s = 10
 ·subst h1;exact ⟨_,rfl⟩
 by_cases h2 : s = 11
 ·subst h2;exact ⟨_,rfl⟩
 by_cases h3 : s = 12
 ·subst h3;exact ⟨_,rfl⟩
 by_cases h4 : s = 17
 ·subst h4;exact ⟨_,rfl⟩
 by_cases h5 : s = 18
 ·subst h5;exact ⟨_,rfl⟩
 by_cases h6 : s = 19
 ·subst h6;exact ⟨_,rfl⟩
 by_cases h7 : s = 20
 ·subst h7;exact ⟨_,rfl⟩
 by_cases h8 : s = 25
 ·subst h8;exact ⟨_,rfl⟩
 exact ⟨[],by simp [h0,h1,h2,h3,h4,h5,h6,h7,h8]⟩
theorem dyn_z (s : Int) (x : FV) : callDyn false (.func 86 [.eptr [.int .i64 0,x] 0]) [.int .i64 s] = some (.bool (stateC s && !decide (s = 0))):=by
 have e : callDyn false (.func 86 [.eptr [.int .i64 0,x] 0]) [.int .i64 s] = cells_Proper_1 (.int .i64 s) (.eptr [.int .i64 0,x] 0):=by kernel_rfl
 have e0 : fLd (.eptr [.int .i64 0,x] 0) 0 = some (.int .i64 0):=rfl
 rw [e,cells_Proper_1.eq]
 simp only [fBin_neq,bindO_s,fCond_b,show fAddrO (.eptr [.int .i64 0,x] 0) 0 = some (.eptr [.int .i64 0,x] 0) from rfl,e0,isState_z]
 by_cases h : s = 0 <;> simp [h]
theorem cellF_len (c : Cel) : (cellF c).length = 3:=rfl
theorem look_l0 (l : List Cel) (x : FV) (hl : l.length ≤ 1000000) : ∀ (s : List Cel) (k : Nat),l.drop k = s →
  cells_look.L0 (.arr (l.map cellF)) (.func 86 [.eptr [.int .i64 0,x] 0]) (.arr (l.map cellF)) (.int .i64 (l.length : Int)) (.int .i64 (k : Int)) =
   some (.int .i64 (match decide (lookC (match k with | 0 => none | k + 1 => l[k]?) s = 0) with | false => lookC (match k with | 0 => none | k + 1 => l[k]?) s | true => (match decide (l.length ≤ 65536) with | true => 0 | false => 14))):=by
 intro s
 induction s with
 | nil =>
  intro k hd
  have hk:=drop_nil hd
  rw [cells_look.L0_eq]
  simp only [fBin_lss,bindO_s,fCond_b,fLen_arr,List.length_map,fBin_gtr,lookC]
  rw [if_neg (by simp;omega)]
  by_cases h : l.length ≤ 65536
  ·rw [if_neg (by simp;omega)];simp [h]
  ·rw [if_pos (by simp;omega)];simp [h]
 | cons c s ih =>
  intro k hd
  obtain ⟨hk,hc,hs⟩:=drop_cons hd
  have hr : (l.map cellF)[k]? = some (cellF c):=by rw [List.getElem?_map,hc];rfl
  have ej : IntKind.i64.wrap ((k : Int) + 1) = ((k + 1 : Nat) : Int):=wrap64 (by omega) (by omega)
  have ih':=ih (k + 1) hs
  simp only [hc] at ih'
  rw [cells_look.L0_eq,idx_arr hr (cellF_len c)]
  simp only [fBin_lss,bindO_s,fCond_b]
  rw [if_pos (by simp;omega)]
  simp only [cellF,List.getElem?_cons_succ,List.getElem?_cons_zero,bindO_s,far_z,fCond_b,dyn_z,fUn_not]
  cases hf : farC c with
  | true => simp [lookC,hf]
  | false =>
   simp only [Bool.false_eq_true,if_false]
   cases hst : stateC c.2.2 && !decide (c.2.2 = 0) with
   | false => simp [lookC,hf,hst]
   | true =>
    simp only [Bool.not_true,Bool.false_eq_true,if_false,fBin_gtr,bindO_s,fCond_b]
    match k,hk,hc,hr,ej,ih' with
    | 0,hk,hc,hr,ej,ih' =>
     rw [if_neg (by simp),fBin_add,ej]
     simp only [bindO_s]
     rw [ih']
     simp [lookC,hf,hst]
    | k + 1,hk,hc,hr,ej,ih' =>
     have hp : l[k]? = some l[k]:=List.getElem?_eq_getElem (by omega)
     have hrp : (l.map cellF)[k]? = some (cellF l[k]):=by rw [List.getElem?_map,hp];rfl
     have es : IntKind.i64.wrap (((k + 1 : Nat) : Int) - 1) = (k : Int):=by rw [show (((k + 1 : Nat) : Int) - 1) = (k : Int) by omega];exact wrap64 (by omega) (by omega)
     rw [if_pos (by simp),fBin_sub,es]
     simp only [bindO_s]
     rw [idx_arr hrp (cellF_len _)]
     simp only [bindO_s,cellF,List.getElem?_cons_succ,List.getElem?_cons_zero]
     have hb:=behind_z l[k] c
     simp only [cellF] at hb
     rw [hb]
     simp only [bindO_s,fBin_geq,fCond_b]
     have hlt:=behI_lt l[k] c
     cases hbf : befC l[k] c with
     | false =>
      rw [hbf] at hlt
      rw [if_pos (by simp at hlt ⊢;omega)]
      simp [lookC,hf,hst,hp,hbf]
     | true =>
      rw [hbf] at hlt
      rw [if_neg (by simp at hlt ⊢;omega),fBin_add,ej]
      simp only [bindO_s]
      rw [ih']
      simp [lookC,hf,hst,hp,hbf]
theorem proper_z (l : List Cel) (x : FV) (hl : l.length ≤ 1000000) : cells_Proper (.agg [.int .i64 0,x]) (.arr (l.map cellF)) = some (.int .i64 (properC l)):=by
 rw [cells_Proper.eq]
 simp only [fIsAgg_agg,List.length_cons,List.length_nil,fCell_zero,fCell_succ,check_z,bindO_s,fBin_neq,fCond_b]
 have h:=look_l0 l x hl l 0 rfl
 rw [cells_look.eq]
 simp only [fLen_arr,List.length_map,bindO_s]
 have h' : cells_look.L0 (.arr (l.map cellF)) (.func 86 [.eptr [.int .i64 0,x] 0]) (.arr (l.map cellF)) (.int .i64 (l.length : Int)) (.int .i64 0) = _:=h
 rw [h']
 rfl
end Go.Proofs.YtpffkpaiihcffaaGreatDoor.Z
end
section
namespace Go.Proofs.YtpffkpaiihcffaaGreatDoor
open Go Go.Proofs Go.Proofs.YtpffkpaiihcffaaGreatDoor.VM Go.RowKit Go.Sort
theorem nan_at (x : Int) (w : World) : Calls Tryz.prog 135 #[.int .i64 x] w fun e w' => e = .returned (.bool false) ∧ w' = w:=by
 go_enter Tryz.func135,Tryz.ntmps135
 go_wp2
 go_ret
 exact ⟨by simp,rfl⟩
theorem compare_at (x y : Int) (w : World) : Calls Tryz.prog 123 #[.int .i64 x,.int .i64 y] w fun e w' => e = .returned (.int .i64 (Z.cmpI x y)) ∧ w' = w:=by
 have hn:=nan_at
 by_cases h1 : x < y
 ·have e : Z.cmpI x y = -1:=by simp [Z.cmpI,h1]
  rw [e];clear e
  go_enter Tryz.func123,Tryz.ntmps123
  go_wp2_with (go_at_call 135;refine (hn _ _).mono ?_;rintro e w' ⟨rfl,rfl⟩)
  go_ret
  exact ⟨rfl,rfl⟩
 ·by_cases h2 : y < x
  ·have e : Z.cmpI x y = 1:=by simp [Z.cmpI,h1,h2]
   rw [e];clear e
   go_enter Tryz.func123,Tryz.ntmps123
   go_wp2_with (go_at_call 135;refine (hn _ _).mono ?_;rintro e w' ⟨rfl,rfl⟩)
   go_ret
   exact ⟨rfl,rfl⟩
  ·have e : Z.cmpI x y = 0:=by simp [Z.cmpI,h1,h2]
   rw [e];clear e
   go_enter Tryz.func123,Tryz.ntmps123
   go_wp2_with (go_at_call 135;refine (hn _ _).mono ?_;rintro e w' ⟨rfl,rfl⟩)
   go_ret
   exact ⟨rfl,rfl⟩
def orI (a b : Int) : Int:=if a ≠ 0 then a else b
theorem or_at (a b : Int) (B : Nat) (w : World) (c0 : w.cell? ⟨B,0,none⟩ = some (.int .i64 a)) (c1 : w.cell? ⟨B,1,none⟩ = some (.int .i64 b)) : Calls Tryz.prog 122 #[.slice (some ⟨B,0,none⟩) 2 2] w fun e w' => e = .returned (.int .i64 (orI a b)) ∧ w' = w:=by
 unfold orI
 by_cases h1 : a = 0
 ·subst h1
  rw [if_neg (by simp)]
  by_cases h2 : b = 0
  ·subst h2
   go_enter Tryz.func122,Tryz.ntmps122
   go_wp2
   refine wp_loop_rounds 3 ?_
   rw [rounds_succ]
   go_wp2
   rw [rounds_succ]
   go_wp2
   rw [rounds_succ]
   go_wp2
   go_ret
   exact ⟨rfl,rfl⟩
  ·go_enter Tryz.func122,Tryz.ntmps122
   go_wp2
   refine wp_loop_rounds 2 ?_
   rw [rounds_succ]
   go_wp2
   rw [rounds_succ]
   go_wp2
   go_ret
   exact ⟨rfl,rfl⟩
 ·rw [if_pos h1]
  go_enter Tryz.func122,Tryz.ntmps122
  go_wp2
  refine wp_loop_rounds 1 ?_
  rw [rounds_succ]
  go_wp2
  go_ret
  exact ⟨rfl,rfl⟩
set_option maxRecDepth 100000 in
set_option maxHeartbeats 1000000 in
theorem behind_at (x y : Cel) (w : World) : Calls Tryz.prog 103 #[valV x,valV y] w fun e w' => e = .returned (.int .i64 (Z.behI x y)) ∧ ∃ q os,w' = grow (w.drewN q) os:=by
 obtain ⟨x1,x2,x3⟩:=x
 obtain ⟨y1,y2,y3⟩:=y
 have hc:=compare_at
 have ho:=or_at
 go_enter Tryz.func103,Tryz.ntmps103
 go_wp2
 refine wp_region_still_tail 10 (by kernel_rfl) (by kernel_rfl) ?_
 simp only [List.take_succ_cons,List.take_zero,List.drop_succ_cons,List.drop_zero]
 obtain ⟨W2,hW2⟩ : ∃ W2,((w.alloc (.cells #[.int .i64 x1,.int .i64 x2,.int .i64 x3] 53)).alloc (.cells #[.int .i64 y1,.int .i64 y2,.int .i64 y3] 53)).drew = W2:=⟨_,rfl⟩
 change wpStill _ _ ((w.alloc (.cells #[.int .i64 x1,.int .i64 x2,.int .i64 x3] 53)).alloc (.cells #[.int .i64 y1,.int .i64 y2,.int .i64 y3] 53)).drew (fun a' => wpList _ _ _ _ _ ((w.alloc (.cells #[.int .i64 x1,.int .i64 x2,.int .i64 x3] 53)).alloc (.cells #[.int .i64 y1,.int .i64 y2,.int .i64 y3] 53)).drew) _ _
 rw [hW2]
 have hfin : ∃ q os,W2.alloc (.cells #[.int .i64 (Z.cmpI x2 y2),.int .i64 (Z.cmpI x1 y1)] 3) = grow (w.drewN q) os:=by
  rw [← hW2]
  exact ⟨1,_,by rw [alloc_eq_grow,alloc_eq_grow,alloc_eq_grow];show grow (grow (grow (w.drewN 1) _) _) _ = _;rw [grow_grow,grow_grow]⟩
 have HF:=Lib.hid hfin
 have c0 : W2.cell? ⟨w.heap.size,0,none⟩ = some (.int .i64 x1):=by rw [← hW2];simp
 have c1 : W2.cell? ⟨w.heap.size,1,none⟩ = some (.int .i64 x2):=by rw [← hW2];simp
 have d0 : W2.cell? ⟨w.heap.size + 1,0,none⟩ = some (.int .i64 y1):=by rw [← hW2];simp
 have d1 : W2.cell? ⟨w.heap.size + 1,1,none⟩ = some (.int .i64 y2):=by rw [← hW2];simp
 clear hW2 hfin
 still_step
 still_step
 still_step
 still_step
 still_call (hc _ _ _)
 still_step
 still_step
 still_step
 still_step
 still_call (hc _ _ _)
 refine wpStill_nil ?_
 have k0 : (W2.alloc (.cells #[.int .i64 (Z.cmpI x2 y2),.int .i64 (Z.cmpI x1 y1)] 3)).cell? ⟨W2.heap.size,0,none⟩ = some (.int .i64 (Z.cmpI x2 y2)):=by simp
 have k1 : (W2.alloc (.cells #[.int .i64 (Z.cmpI x2 y2),.int .i64 (Z.cmpI x1 y1)] 3)).cell? ⟨W2.heap.size,1,none⟩ = some (.int .i64 (Z.cmpI x1 y1)):=by simp
 have ho':=ho _ _ _ _ k0 k1
 have HB:=Lib.hid (show Z.behI (x1,x2,x3) (y1,y2,y3) = orI (Z.cmpI x2 y2) (Z.cmpI x1 y1) from rfl)
 generalize orI (Z.cmpI x2 y2) (Z.cmpI x1 y1) = oo at HB ho'
 clear ho k0 k1 c0 c1 d0 d1
 go_wp2_with (go_at_call 122;refine ho'.mono ?_;rintro e w' ⟨rfl,rfl⟩)
 go_ret
 exact ⟨by rw [HB.out];rfl,HF.out⟩
theorem behind_cells (x y : Cel) (w : World) : Calls Tryz.prog 69 #[valV x,valV y] w fun e w' => e = .returned (.int .i64 (Z.behI x y)) ∧ ∃ q os,w' = grow (w.drewN q) os:=by
 obtain ⟨x1,x2,x3⟩:=x
 obtain ⟨y1,y2,y3⟩:=y
 have hb:=behind_at (x1,x2,x3) (y1,y2,y3)
 generalize Z.behI (x1,x2,x3) (y1,y2,y3) = bb at hb ⊢
 go_enter Tryz.func69,Tryz.ntmps69
 go_wp2_with (go_at_call 103;refine (hb _).mono ?_;rintro e w' ⟨rfl,q,os,rfl⟩)
 go_ret
 exact ⟨rfl,q,_,by rw [alloc_eq_grow,alloc_eq_grow];show grow (grow (grow (w.drewN q) _) _) os = _;rw [grow_grow,grow_grow]⟩
end Go.Proofs.YtpffkpaiihcffaaGreatDoor
end
section
namespace Go.Proofs.YtpffkpaiihcffaaGreatDoor
open Go Go.Proofs Go.Proofs.YtpffkpaiihcffaaGreatDoor.VM Go.RowKit Go.Shelf Go.Lib Go.Sort
theorem z_calls {g : Nat} {xs : List FV} {y : FV} {fn : Func} (hm : Z.E.mode g = .call [] false) (hg : Z.E.fn g = some fn) (hn : fn.nfree = 0) (h : den Z.E g xs = some y) {cs : List Value} {w : World} {A : Nat → Prop} (hA : ∀ b,A b → b < w.heap.size)
  (ha : ArgsR Z.E w A fn.params.toList xs cs) : Calls Tryz.prog g cs.toArray w fun e w' => ∃ v,e = .returned v ∧ Ret Z.E [] fn w A y v w':=by
 obtain ⟨n,hn'⟩:=den_some h
 have hp : pars Z.E fn = fn.params.toList:=by simp [pars,hn]
 exact (callF_sound Z.envOk normSpec (drawSpec Z.envOk) Z.ovOk n).plain g xs y [] false fn hm hg hn' cs w A hA (by rw [hp];exact ha)
theorem ret_one {fn : Func} {w w' : World} {A : Nat → Prop} {y : FV} {v : Value} (h : Ret Z.E [] fn w A y v w') (hr : fn.resultTypes.size = 1) : (∃ A',FR w' A' y v) ∧ Go.RowKit.Below w.heap.size w w':=by
 obtain ⟨A',us,ys,obs,q1,q2,q3,q4,rfl,rfl,q5,q6,_,_⟩:=h
 rw [hr] at q5
 have hl : fn.resultTypes.toList.length = 1:=by simpa using hr
 match ys,q5,hrt : fn.resultTypes.toList,hl,us,q6 with
 | [y],_,[t],_,[u],q6 =>
  obtain ⟨o1,o2,_,h1,_⟩:=q6
  exact ⟨⟨A',h1.1⟩,q4⟩
 | [y],_,[t],_,[],q6 => exact q6.elim
 | [y],_,[t],_,_ :: _ :: _,q6 => obtain ⟨_,_,_,_,h⟩:=q6;exact h.elim
theorem args_ints {w : World} {A : Nat → Prop} (gl : GlobR w A) {ts : List Nat} (l : List Int) (h : ts.length = l.length) : ArgsR Z.E w A ts (l.map (FV.int .i64)) (l.map (Value.int .i64)):=by
 refine ⟨by simp [h],by simp,gl,fun i t x c ht hx hc => ?_⟩
 rw [List.getElem?_map] at hx hc
 cases hl : l[i]? with
 | none => rw [hl] at hx;cases hx
 | some n => rw [hl] at hx hc;cases hx;cases hc;exact ⟨.int _ _,fun _ => rfl⟩
section
variable {w : World} {A : Nat → Prop} (hA : ∀ b,A b → b < w.heap.size) (gl : GlobR w A)
include hA gl
theorem far_calls (c : Cel) : Calls Tryz.prog 64 #[.int .i64 c.1,.int .i64 c.2.1] w fun e w' => e = .returned (.bool (farC c)) ∧ Go.RowKit.Below w.heap.size w w' :=
 (z_calls (fn:=Tryz.f64) (by kernel_rfl) (by kernel_rfl) (by kernel_rfl) (Z.far_z c) hA (args_ints gl [c.1,c.2.1] (by kernel_rfl))).mono fun e w' ⟨v,he,hr⟩ => by
  obtain ⟨⟨A',h⟩,hb⟩:=ret_one hr (by kernel_rfl)
  cases h
  exact ⟨he,hb⟩
theorem isState_calls (s : Int) : Calls Tryz.prog 65 #[.int .i64 0,.int .i64 s] w fun e w' => e = .returned (.bool (stateC s)) ∧ Go.RowKit.Below w.heap.size w w' :=
 (z_calls (fn:=Tryz.f65) (by kernel_rfl) (by kernel_rfl) (by kernel_rfl) (Z.isState_z s) hA (args_ints gl [0,s] (by kernel_rfl))).mono fun e w' ⟨v,he,hr⟩ => by
  obtain ⟨⟨A',h⟩,hb⟩:=ret_one hr (by kernel_rfl)
  cases h
  exact ⟨he,hb⟩
theorem check_calls {x : FV} {c : Value} (hx : FR w A x c) (h1 : c.oneCell' = true) : Calls Tryz.prog 63 #[.agg #[.int .i64 0,c]] w fun e w' => e = .returned (.int .i64 0) ∧ Go.RowKit.Below w.heap.size w w' :=
 (z_calls (fn:=Tryz.f63) (cs:=[.agg #[.int .i64 0,c]]) (by kernel_rfl) (by kernel_rfl) (by kernel_rfl) (Z.check_z x) hA ⟨by kernel_rfl,rfl,gl,fun i t y u ht hy hu => by
  match i,hy,hu with
  | 0,hy,hu =>
   cases hy;cases hu
   have ht' : t = 62:=by
    have e : Tryz.f63.params.toList[0]? = some 62:=by kernel_rfl
    rw [e] at ht;cases ht;rfl
   refine ⟨FR.agg [.int .i64 0,x] [.int .i64 0,c] rfl (fun u hu => (List.mem_cons.1 hu).elim (fun e => by rw [e];rfl) (fun e => by rw [List.mem_singleton.1 e];exact h1)) fun k y u hy hu => ?_,fun h => ?_⟩
   ·match k,hy,hu with
    | 0,hy,hu => cases hy;cases hu;exact .int _ _
    | 1,hy,hu => cases hy;cases hu;exact hx
    | k + 2,hy,hu => simp at hy
   ·subst ht'
    have e : (Z.E.ty 62).isAgg = true:=by kernel_rfl
    rw [e] at h;cases h
  | i + 1,hy,hu => simp at hy⟩).mono fun e w' ⟨v,he,hr⟩ => by
  obtain ⟨⟨A',h⟩,hb⟩:=ret_one hr (by kernel_rfl)
  cases h
  exact ⟨he,hb⟩
end
theorem swo_beh : SWO (ltOf Z.behI):=by
 have e : ltOf Z.behI = befC:=by funext x y;exact Z.behI_lt x y
 rw [e]
 exact ⟨befC_irr,fun x y z => befC_trans,fun x y z h k => by rw [befC_no] at *;omega⟩
theorem cmp_lays (blk off size : Nat) (w : World) : CmpLays Tryz.prog 69 #[] encK 3 Z.behI blk off size w:=fun m os dk _ x y => behind_cells x y _
theorem encK_len (c : Cel) : (encK c).length = 3:=rfl
theorem encK_one (c : Cel) : ∀ v ∈ encK c,v.oneCell' = true:=by
 intro v hv
 simp only [encK,List.mem_cons,List.not_mem_nil,or_false] at hv
 rcases hv with rfl | rfl | rfl <;> rfl
theorem flat_get (l : List Cel) : ∀ (t : Nat),t < l.length * 3 → (l.flatMap encK)[t]? = (encK (l.getD (t / 3) default))[t % 3]?:=by
 induction l with
 | nil => intro t h;simp at h
 | cons c l ih =>
  intro t h
  rw [List.flatMap_cons]
  by_cases h3 : t < 3
  ·rw [List.getElem?_append_left (by simpa [encK] using h3),Nat.div_eq_of_lt h3,Nat.mod_eq_of_lt h3]
   rfl
  ·rw [List.getElem?_append_right (by simp [encK];omega),encK_len,ih (t - 3) (by simp at h;omega)]
   have e1 : t / 3 = (t - 3) / 3 + 1:=by omega
   have e2 : t % 3 = (t - 3) % 3:=by omega
   rw [e1,e2,List.getD_cons_succ]
theorem holds_of_row {w : World} {blk cap : Nat} {cur : Array Value} {l : List Cel} (hb : w.heap[blk]? = some (.cells cur 53 (0,0))) (ht : cur.toList.take (l.length * 3) = l.flatMap encK) (hs : l.length ≤ cap) (hc : cur.size = cap * 3) : HoldsK encK 3 w blk 0 l.toArray:=by
 intro j hj
 simp only [size_flatK,List.size_toArray] at hj
 have hj2 : j < cur.size:=by omega
 refine ⟨?_,by simp [World.frozen?,hb]⟩
 have e1 : w.cell? ⟨blk,0 + j,none⟩ = cur[j]?:=by simp [World.cell?,hb]
 rw [e1,get_flatK _ _ _ _ (by simpa using hj)]
 have e2 : cur[j]? = (cur.toList.take (l.length * 3))[j]?:=by rw [List.getElem?_take,if_pos hj];simp
 rw [e2,ht,flat_get l j hj]
 have hlt : j / 3 < l.length:=by omega
 have e3 : l.toArray[j / 3]! = l.getD (j / 3) default:=by simp [List.getD_eq_getElem?_getD,hlt,getElem!_pos]
 have e4 : j % 3 < (encK (l.getD (j / 3) default)).length:=by rw [encK_len];omega
 rw [e3]
 rw [List.getElem?_eq_getElem e4]
 congr 1
 exact (getElem!_pos (encK (l.getD (j / 3) default)) (j % 3) e4).symm
def CellsAt (w : World) (base : Nat) (v : Value) (l : List Cel) : Prop :=
 (v = .slice none 0 0 ∧ l = []) ∨ ∃ g cap,v = .slice (some ⟨g,0,none⟩) l.length cap ∧ base ≤ g ∧ l.length ≤ cap ∧ cap ≤ maxLen ∧ HoldsK encK 3 w g 0 l.toArray ∧ g < w.heap.size ∧ l ≠ [] ∧ ∃ cc,w.heap[g]? = some (.cells cc 53 (0,0)) ∧ cap * 3 ≤ cc.size
theorem grownBy_sortedK {w : World} {g n : Nat} {os : Array Obj} (d : Array Cel) : w.grownBy (sortWorldK encK 3 w g 0 n d os) (some g):=by
 refine ⟨rfl,rfl,rfl,by simp [sortWorldK,putRowK,putRow,mapBlock,grow,Sort.ahead],fun k hk hne => ?_⟩
 unfold sortWorldK
 rw [heap_grow_old _ _ (by simpa [putRowK,putRow,mapBlock,Sort.ahead] using hk)]
 have : g ≠ k:=fun e => hne (by rw [e])
 simp [putRowK,putRow,mapBlock,Sort.ahead,Array.getElem?_modify,this]
theorem sorted_list {xs : List Cel} {d' : Array Cel} (hx : ApartC xs) (hp : PermIn 0 xs.toArray.size xs.toArray d') (hs : SortedIn (ltOf Z.behI) 0 xs.toArray.size d') : d'.toList = sortC xs:=by
 obtain ⟨p1,_,p3⟩:=hp
 have e1 : (d'.extract 0 xs.toArray.size) = d':=by rw [← p1];simp
 have e2 : (xs.toArray.extract 0 xs.toArray.size) = xs.toArray:=by simp
 rw [e1,e2] at p3
 have hmem : ∀ c,c ∈ d'.toList ↔ c ∈ xs:=fun c => p3.mem_iff
 have hap : ApartC d'.toList:=(p3.symm.pairwise_iff (fun {a b} h => smC_symm h)).1 hx
 refine sortC_eq hx ?_ hmem
 refine List.pairwise_iff_getElem.2 fun i j hi hj hij => ?_
 have h1:=hs i j (Nat.zero_le _) hij (by rw [← p1];simpa using hj)
 have h2:=List.pairwise_iff_getElem.1 hap i j hi hj hij
 have g1 : d'[i]! = d'.toList[i]:=by simp [getElem!_pos d' i (by simpa using hi)]
 have g2 : d'[j]! = d'.toList[j]:=by simp [getElem!_pos d' j (by simpa using hj)]
 rw [g1,g2,show ltOf Z.behI = befC by funext x y;exact Z.behI_lt x y] at h1
 rw [smC_no] at h2;rw [befC_no] at h1;rw [befC_iff];omega
theorem sort_at (v : Value) (xs : List Cel) (base : Nat) (w : World) (hx : ApartC xs) (hrow : w.ownsRow base 53 3 v xs.length (xs.flatMap encK)) (hnil : v = .slice none 0 0 ↔ xs = []) (hsz : xs.length < 4611686018427387904) :
  Calls Tryz.prog 120 #[v,.func (.func 69) #[] #[]] w fun e w' => e = .returned (.tuple #[]) ∧ CellsAt w' base v (sortC xs) ∧ (Go.RowKit.Below base w w'):=by
 rcases hrow.2 with ⟨rfl,hz⟩ | ⟨g,cap,cur,rfl,hbase,hgb,r1,r2,r3,r4⟩
 ·obtain rfl:=hnil.1 rfl
  exact (AnyF.slices_SortFunc_none Tryz.sortCells none 0 _ w).mono fun e w' ⟨he,hw⟩ => by
   subst hw
   exact ⟨he,.inl ⟨rfl,rfl⟩,Go.RowKit.Below.refl _ _⟩
 ·have hH:=holds_of_row hgb r4 r1 r3
  have hgl : g < w.heap.size:=(Array.getElem?_eq_some_iff.1 hgb).1
  have:=AnyQ.slices_SortFunc Tryz.sortCells 3 Tryz.isAgg53 Tryz.sizeOf53 encK encK_len encK_one Z.behI swo_beh 69 #[] g 0 cap xs.toArray w (enters_of Tryz.func69 (by kernel_rfl) rfl) (cmp_lays _ _ _ _) hH hgl (by simpa using hsz)
  refine this.mono fun e w' ⟨he,d',n,os,hp,hs,hw⟩ => ?_
  have hl:=sorted_list hx hp hs
  have ed : d' = (sortC xs).toArray:=by rw [← hl]
  subst hw
  have hb:=grownBy_sortedK (w:=w) (g:=g) (n:=n) (os:=os) d'
  refine ⟨he,.inr ⟨g,cap,?_,hbase,by rw [sortC_len];exact r1,r2,?_,Nat.lt_of_lt_of_le hgl hb.size,?_,?_⟩,?_⟩
  ·rw [sortC_len]
  ·rw [← ed]
   exact holdsK_sortWorldK_c encK 3 w g 0 xs.toArray d' n os hH hgl (by rw [ed];simp [sortC_len])
  ·intro e
   have h0 : xs ≠ []:=fun e => by have:=hnil.2 e;cases this
   have:=congrArg List.length e
   rw [sortC_len] at this
   exact h0 (List.eq_nil_of_length_eq_zero this)
  ·have hput : ∃ cc,(sortWorldK encK 3 w g 0 n d' os).heap[g]? = some (.cells cc 53 (0,0)) ∧ cc.size = cur.size:=by
    unfold sortWorldK
    rw [heap_grow_old _ _ (by simpa [putRowK,putRow,mapBlock,Sort.ahead] using hgl)]
    refine ⟨putCells id 0 (flatK encK 3 d') cur,?_,by simp [putCells]⟩
    have hgb' : w.heap[g]? = some (.cells cur 53 (0,0)):=hgb
    simp [putRowK,putRow,mapBlock,Sort.ahead,Array.getElem?_modify,hgb',onCells]
   obtain ⟨cc,c1,c2⟩:=hput
   exact ⟨cc,c1,by rw [c2,r3];exact Nat.le_refl _⟩
  ·exact (Go.RowKit.Below.refl base w).grown hb (by omega) (fun k e => by cases e;exact hbase)
end Go.Proofs.YtpffkpaiihcffaaGreatDoor
end
section
namespace Go.Proofs.YtpffkpaiihcffaaGreatDoor
open Go Go.Proofs Go.Proofs.YtpffkpaiihcffaaGreatDoor.VM Go.RowKit Go.Shelf Go.Lib Go.Sort Go.Maps
attribute [local go_sem] Oper.semAt_some
theorem CellsAt.base {w : World} {b b' : Nat} {v : Value} {l : List Cel} (h : CellsAt w b v l) (hb : b' ≤ b) : CellsAt w b' v l:=by
 rcases h with h | ⟨g,cap,h1,h2,h3⟩
 ·exact .inl h
 ·exact .inr ⟨g,cap,h1,Nat.le_trans hb h2,h3⟩
def SortedPost (L : List Cel) (base : Nat) (w : World) (e : Ending) (w' : World) : Prop :=
 ∃ v l,e = .returned v ∧ OrdC l ∧ (∀ c,c ∈ l ↔ c ∈ L) ∧ CellsAt w' base v l ∧ Go.RowKit.Below base w w'
set_option maxHeartbeats 2000000 in
theorem sortedFunc_in (g : Nat) (lb : Array Value) (eg : ∀ args w,(callFunc g args).run Tryz.prog w = .ok (.enter g args) w) (L : List Cel) (N : Nat) (hN : N ≤ maxLen) (hNb : N * 24 ≤ 140737488355328) (hL : ∀ xs,AllC L xs → xs.length < 4611686018427387904) (w : World)
  (hseq : SeqStopsK Fence.wide (7 - 1 - 1 - 1) Tryz.prog g lb (fun c : Cel => #[valV c]) KeepsWalks (AllC L) (fun _ => True) N w) :
  CallsIn Fence.wide 7 Tryz.prog 101 #[.func (.func g) #[] lb,.func (.func 69) #[] #[]] w (SortedPost L w.heap.size w):=by
 have e119 : ∀ args w,(callFunc 119 args).run Tryz.prog w = .ok (.enter 119 args) w:=enters_of Tryz.func119 (by kernel_rfl) rfl
 have e120 : ∀ args w,(callFunc 120 args).run Tryz.prog w = .ok (.enter 120 args) w:=enters_of Tryz.func120 (by kernel_rfl) rfl
 have h1 : 1 ≤ 7:=by omega
 refine callsIn_of_wp Tryz.func101 rfl trivial ?_ rfl
 simp only [Tryz.ntmps101,List.size_toArray,List.length_cons,List.length_nil,Nat.reduceAdd,Nat.reduceSub,Array.replicate_succ,Array.replicate_zero,List.push_toArray,List.append_toArray,List.nil_append,List.cons_append]
 gi_wp2_with (refine ⟨trivial,?_⟩;gi_at_fn 119;refine (collect_in Fence.wide 6 trivial trivial rfl (by omega) g lb trivial eg _ N hN hNb _ hseq).mono ?_;rintro e w1 ⟨v,xs,rfl,hS,hrow,hnil,hb⟩)
 refine ⟨trivial,?_⟩
 refine (callsIn_wide.2 (sort_at v xs w.heap.size w1 hS.1 hrow hnil (hL xs hS))).mono ?_
 rintro e w2 ⟨rfl,hcells,hb2⟩
 gi_wp2
 go_ret
 exact ⟨v,sortC xs,rfl,sortC_ord hS.1,fun c => by rw [sortC_mem,hS.2],hcells,hb.trans hb2⟩
theorem all_len {L xs : List Cel} (hL : ApartC L) (h : AllC L xs) : xs.length = L.length:=by
 have h1 : sortC xs = sortC L:=ord_unique (sortC_ord h.1) (sortC_ord hL) fun c => by rw [sortC_mem,sortC_mem,h.2]
 have:=congrArg List.length h1
 rwa [sortC_len,sortC_len] at this
theorem cell_of_box_v (w : World) (v : Value) (t : TypeId) : (w.alloc (.cells #[v] t)).cell? ⟨w.heap.size,0,none⟩ = some v:=by simp
set_option maxHeartbeats 2000000 in
theorem sorted_calls (b nn : Nat) (es : List (Lit × DataW Unit)) (L : List Cel) (hap : ApartC L) (w : World) (hown : w.ownsMap Tryz.prog 101 cellR b nn (.map es)) (hp : es.Perm (L.map entC)) (hr : ∀ c ∈ L,Rng c) (hlen : L.length ≤ 1000000) :
  Calls Tryz.prog 68 #[.map (some b),.func (.func 69) #[] #[]] w (SortedPost L w.heap.size w):=by
 have el : es.length = L.length:=by rw [hp.length_eq];simp
 have hN : es.length ≤ maxLen:=by unfold maxLen;omega
 have hv:=cell_of_box_v w (.map (some b)) 111
 have hseq:=values_stops Fence.wide (7 - 1 - 1 - 1) trivial rfl (by omega) w.heap.size b nn es L (w.alloc (.cells #[.map (some b)] 111)) (by simp) hv (hown.alloc _) hp hr
 have hsf:=sortedFunc_in 121 #[.pointer (some ⟨w.heap.size,0,none⟩)] (enters_of Tryz.func121 (by kernel_rfl) rfl) L es.length hN (by omega) (fun xs h => by rw [all_len hap h];omega) _ hseq
 have e101 : ∀ args w,(callFunc 101 args).run Tryz.prog w = .ok (.enter 101 args) w:=enters_of Tryz.func101 (by kernel_rfl) rfl
 have e102 : ∀ args w,(callFunc 102 args).run Tryz.prog w = .ok (.enter 102 args) w:=enters_of Tryz.func102 (by kernel_rfl) rfl
 have h1 : 1 ≤ 8:=by omega
 clear hseq hv hN hown
 refine (callsIn_wide (n:=8)).1 ?_
 refine callsIn_of_wp Tryz.func68 rfl trivial ?_ rfl
 simp only [Tryz.ntmps68,List.size_toArray,List.length_cons,List.length_nil,Nat.reduceAdd,Nat.reduceSub,Array.replicate_succ,Array.replicate_zero,List.push_toArray,List.append_toArray,List.nil_append,List.cons_append]
 gi_wp2_with (refine ⟨trivial,?_⟩;gi_at_fn 102;refine (values_in Fence.wide 7 trivial rfl _ _).mono ?_;rintro e w1 ⟨rfl,rfl⟩)
 refine ⟨trivial,?_⟩
 refine hsf.mono ?_
 rintro e w2 ⟨v,l,rfl,hord,hmem,hcells,hb⟩
 gi_wp2
 go_ret
 exact ⟨v,l,rfl,hord,hmem,hcells.base (by simp),((Go.RowKit.Below.refl _ w).alloc (Nat.le_refl _) _).trans (hb.mono (by simp))⟩
end Go.Proofs.YtpffkpaiihcffaaGreatDoor
end
