/- Steps of the proof: The codes of the types of the law ArmStands's parameters; The document's Canon (rametref01), the law's comparison of lists; The document's Canon; the law's comparison; both arms; Both arms, both After, the law ArmStands; Both After; the law ArmStands; The law ArmStands; The program's Moves over a field's columns; The program's Wipe over a field's columns; its Moves and Wipe over lists of cells; The document's Proper, field, last, top, At; The codes of the types of the law ArmWorld's parameters; The document's World; the law ArmWorld. -/
import Derived.Test.YtpffkpaiihcffaaGreatDoorEnv
import Derived.Test.YtpffkpaiihcffaaGreatDoorRow
import Derived.Test.YtpffkpaiihcffaaGreatDoorCode0
import Derived.Test.YtpffkpaiihcffaaGreatDoorKit
import Derived.Test.YtpffkpaiihcffaaGreatDoorCel
import Derived.Test.YtpffkpaiihcffaaGreatDoorOvk
set_option linter.unusedVariables false
set_option linter.unusedSimpArgs false
section
namespace Go.Proofs.YtpffkpaiihcffaaGreatDoor
open Go Go.Proofs.YtpffkpaiihcffaaGreatDoor.VM
end Go.Proofs.YtpffkpaiihcffaaGreatDoor
end
section
namespace Go.Proofs.YtpffkpaiihcffaaGreatDoor
open Go Go.Proofs Go.Proofs.YtpffkpaiihcffaaGreatDoor.VM Go.RowKit
def stB (x y : Int) : Bool:=decide (2 ≤ x) && (decide (x ≤ 60) && (decide (-1 ≤ y) && decide (y ≤ 60)))
theorem stands_d (x y : Int) : ref08_stands (.int .i64 x) (.int .i64 y) = some (.bool (stB x y)):=by
 rw [ref08_stands.eq]
 simp only [fBin_geq,fBin_leq,bindO_s,fCond_b,stB]
 by_cases h1 : 2 ≤ x <;> by_cases h2 : x ≤ 60 <;> by_cases h3 : -1 ≤ y <;> simp [h1,h2,h3]
theorem near_d (c : Cel) : ref01_near (.int .i64 c.1) (.int .i64 c.2.1) = some (.bool (!farC c)):=by
 rw [ref01_near.eq]
 simp only [fBin_geq,fBin_leq,bindO_s,fCond_b,farC]
 by_cases h1 : -1073741824 ≤ c.1 <;> by_cases h2 : c.1 ≤ 1073741824 <;> by_cases h3 : -1073741824 ≤ c.2.1 <;> by_cases h4 : c.2.1 ≤ 1073741824 <;> simp [h1,h2,h3,h4] <;> omega
theorem check_d (x : FV) : ref01_Check (.agg [.int .i64 0,x]) = some (.int .i64 0):=by
 rw [ref01_Check.eq]
 simp [ref01_Check.L0_eq]
theorem states_d (x : FV) : ref01_States (.agg [.int .i64 0,x]) = some (.int .i64 29):=by
 rw [ref01_States.eq]
 simp [check_d]
theorem isState_d (x : FV) (s : Int) : ref01_isState (.agg [.int .i64 0,x]) (.int .i64 s) = some (.bool (stateC s)):=by
 rw [ref01_isState.eq]
 simp only [fIsAgg_agg,List.length_cons,List.length_nil,fCell_zero,fCell_succ,fBin_eql,fBin_geq,bindO_s,fCond_b,states_d,fBin_lss,stateC]
 by_cases h : 0 ≤ s <;> simp [h]
theorem behind_d (a b : Cel) : ref01_behind (.agg (cellF a)) (.agg (cellF b)) = some (.bool (befC b a)):=by
 rw [ref01_behind.eq]
 simp only [cellF,fIsAgg_agg,List.length_cons,List.length_nil,fCell_zero,fCell_succ,fBin_gtr,fBin_eql,bindO_s,fCond_b,befC]
 by_cases h1 : b.2.1 < a.2.1
 ·simp [h1]
 ·by_cases h2 : b.2.1 = a.2.1
  ·simp [h1,h2]
  ·simp [h1,h2,Ne.symm h2]
theorem cellF_len' (c : Cel) : (cellF c).length = 3:=rfl
theorem rows3 (l : List Cel) : rowsSz 3 (l.map cellF) = true:=rowsSz_map cellF_len' l
theorem idxC {l : List Cel} {k : Nat} {c : Cel} (h : l[k]? = some c) : fIdxC 3 (.arr (l.map cellF)) (.int .i64 (k : Int)) = some (cellF c):=idx_arr (by rw [List.getElem?_map,h];rfl) rfl
theorem roomC {n : Nat} (h : n ≤ 1000000) : decide (n * 24 ≤ room) = true:=decide_eq_true (by unfold room;omega)
theorem merge_l0 (a b : List Cel) (ha : a.length + b.length ≤ 1000000) : ∀ (n i j : Nat) (acc : List Cel),(a.length - i) + (b.length - j) = n → acc.length + n ≤ 1000000 → i ≤ a.length → j ≤ b.length →
  ref01_sorted.L0 (.arr (a.map cellF)) (.arr (b.map cellF)) (.int .i64 (i : Int)) (.int .i64 (j : Int)) (acc.map cellF) = some (.arr ((acc ++ mergeC (a.drop i) (b.drop j)).map cellF)):=by
 intro n
 induction n with
 | zero =>
  intro i j acc hn hacc hi hj
  rw [ref01_sorted.L0_eq]
  simp only [fLen_arr,List.length_map,bindO_s,fBin_lss,fCond_b]
  rw [if_neg (by simp;omega),if_neg (by simp;omega),List.drop_of_length_le (by omega),List.drop_of_length_le (by omega)]
  simp [mergeC]
 | succ n ih =>
  intro i j acc hn hacc hi hj
  have e1 : ∀ c : Cel,acc.map cellF ++ [[FV.int .i64 c.1,.int .i64 c.2.1,.int .i64 c.2.2]] = (acc ++ [c]).map cellF:=fun c => by simp [cellF]
  have ei : IntKind.i64.wrap ((i : Int) + 1) = ((i + 1 : Nat) : Int):=wrap64 (by omega) (by omega)
  have ej : IntKind.i64.wrap ((j : Int) + 1) = ((j + 1 : Nat) : Int):=wrap64 (by omega) (by omega)
  have hroom : decide ((acc.length + 1) * 24 ≤ room) = true:=roomC (by omega)
  have go1 : ref01_sorted.L0 (.arr (a.map cellF)) (.arr (b.map cellF)) (.int .i64 (i : Int)) (.int .i64 (j : Int)) (acc.map cellF) = ref01_sorted.L1 (.arr (a.map cellF)) (.arr (b.map cellF)) (.int .i64 (i : Int)) (.int .i64 (j : Int)) (acc.map cellF):=by
   rw [ref01_sorted.L0_eq]
   simp only [fLen_arr,List.length_map,bindO_s,fBin_lss,fCond_b]
   by_cases h1 : i < a.length
   ·rw [if_pos (by simp;omega)]
   ·rw [if_neg (by simp;omega),if_pos (by simp;omega)]
  rw [go1,ref01_sorted.L1_eq]
  simp only [fLen_arr,List.length_map,bindO_s,fBin_lss,fBin_eql,fCond_b]
  by_cases h2 : j = b.length
  ·obtain ⟨x,hx⟩ : ∃ x,a[i]? = some x:=⟨_,List.getElem?_eq_getElem (by omega)⟩
   rw [if_pos (by simp;omega),idxC hx]
   simp only [bindO_s,cellF,List.getElem?_cons_zero,List.getElem?_cons_succ]
   rw [hroom,gB_t,fBin_add,bindO_s,ei,e1 x]
   rw [ih (i + 1) j (acc ++ [x]) (by omega) (by simp;omega) (by omega) hj]
   rw [List.drop_eq_getElem_cons (show i < a.length by omega),List.drop_of_length_le (l:=b) (by omega)]
   have hxx : a[i] = x:=by rw [List.getElem?_eq_getElem (by omega)] at hx;exact Option.some.inj hx
   rw [hxx,mergeC_nil,mergeC_nil]
   simp
  ·obtain ⟨y,hy⟩ : ∃ y,b[j]? = some y:=⟨_,List.getElem?_eq_getElem (by omega)⟩
   have hyy : b[j]'(by omega) = y:=by rw [List.getElem?_eq_getElem (by omega)] at hy;exact Option.some.inj hy
   rw [if_neg (by simp;omega)]
   by_cases h3 : i < a.length
   ·obtain ⟨x,hx⟩ : ∃ x,a[i]? = some x:=⟨_,List.getElem?_eq_getElem h3⟩
    have hxx : a[i] = x:=by rw [List.getElem?_eq_getElem (by omega)] at hx;exact Option.some.inj hx
    have hb:=behind_d x y
    rw [if_pos (by simp;omega),idxC hx,idxC hy]
    simp only [bindO_s,cellF,List.getElem?_cons_zero,List.getElem?_cons_succ]
    simp only [cellF] at hb
    rw [hb]
    simp only [bindO_s,fUn_not,fCond_b]
    cases hbf : befC y x with
    | true =>
     rw [if_neg (by simp),hroom,gB_t,fBin_add,bindO_s,ej,e1 y]
     rw [ih i (j + 1) (acc ++ [y]) (by omega) (by simp;omega) hi (by omega)]
     rw [List.drop_eq_getElem_cons h3,List.drop_eq_getElem_cons (show j < b.length by omega),hxx,hyy]
     simp [mergeC,hbf]
    | false =>
     rw [if_pos (by simp),hroom,gB_t,fBin_add,bindO_s,ei,e1 x]
     rw [ih (i + 1) j (acc ++ [x]) (by omega) (by simp;omega) (by omega) hj]
     rw [List.drop_eq_getElem_cons h3,List.drop_eq_getElem_cons (show j < b.length by omega),hxx,hyy]
     simp [mergeC,hbf]
   ·rw [if_neg (by simp;omega),idxC hy]
    simp only [bindO_s,cellF,List.getElem?_cons_zero,List.getElem?_cons_succ]
    rw [hroom,gB_t,fBin_add,bindO_s,ej,e1 y]
    rw [ih i (j + 1) (acc ++ [y]) (by omega) (by simp;omega) hi (by omega)]
    rw [List.drop_of_length_le (l:=a) (by omega),List.drop_eq_getElem_cons (show j < b.length by omega),hyy]
    simp [mergeC]
theorem sorted_d : ∀ (n : Nat) (l : List Cel),l.length ≤ n → l.length ≤ 1000000 → ∃ s,Srt l s ∧ ref01_sorted (.arr (l.map cellF)) = some (.arr (s.map cellF)):=by
 intro n
 induction n with
 | zero =>
  intro l h _
  obtain rfl : l = []:=List.length_eq_zero_iff.1 (by omega)
  refine ⟨[],Srt.small (by simp),?_⟩
  rw [ref01_sorted.eq]
  simp [room]
 | succ n ih =>
  intro l h hn
  rw [ref01_sorted.eq]
  simp only [fLen_arr,List.length_map,bindO_s,fBin_lss,fCond_b]
  by_cases h2 : l.length < 2
  ·refine ⟨l,Srt.small h2,?_⟩
   rw [if_pos (by simp;omega)]
   simp only [asRows_arr,bindO_s,rows3,gB_t,List.length_map,Nat.zero_add]
   rw [roomC hn]
   simp
  ·rw [if_neg (by simp;omega)]
   have eq2 : fBin .quo (.int .i64 (l.length : Int)) (.int .i64 2) = some (.int .i64 ((l.length / 2 : Nat) : Int)):=by
    rw [fBin_quo,if_neg (by decide)]
    congr 2
    rw [show ((l.length : Int)).tdiv 2 = ((l.length / 2 : Nat) : Int) from rfl]
    exact wrap64 (by omega) (by omega)
   rw [eq2]
   simp only [bindO_s]
   rw [fCut_take (rows3 l) (by rw [List.length_map];omega),fCut_drop (rows3 l) (by rw [List.length_map];omega)]
   simp only [bindO_s]
   rw [← List.map_take,← List.map_drop]
   obtain ⟨s,hs,e1⟩:=ih (l.take (l.length / 2)) (by simp;omega) (by simp;omega)
   obtain ⟨t,ht,e2⟩:=ih (l.drop (l.length / 2)) (by simp;omega) (by simp;omega)
   rw [e1,e2]
   simp only [bindO_s]
   have hl1:=hs.len
   have hl2:=ht.len
   simp only [List.length_take,List.length_drop] at hl1 hl2
   refine ⟨mergeC s t,by have:=hs.merge ht;rwa [List.take_append_drop] at this,?_⟩
   have:=merge_l0 s t (by omega) (s.length + t.length) 0 0 [] (by omega) (by simp;omega) (by omega) (by omega)
   simpa using this
end Go.Proofs.YtpffkpaiihcffaaGreatDoor
end
section
namespace Go.Proofs.YtpffkpaiihcffaaGreatDoor
open Go Go.Proofs Go.Proofs.YtpffkpaiihcffaaGreatDoor.VM Go.RowKit
theorem canon_l1 (s : List Cel) (hs : s.length ≤ 1000000) (x0 x : FV) : ∀ (n k : Nat) (acc : List Cel),s.length - k = n → acc.length + n ≤ 1000000 → k ≤ s.length →
  ref01_Canon.L1 (.arr (s.map cellF)) (.int .i64 (k : Int)) x0 x (acc.map cellF) =
   (match decide ((acc ++ lastsW (s.drop k)).length ≤ 65536) with | true => some (.tup [.arr ((acc ++ lastsW (s.drop k)).map cellF),.int .i64 0]) | false => some (.tup [.arr [],.int .i64 14])):=by
 intro n
 induction n with
 | zero =>
  intro k acc hn hacc hk
  rw [ref01_Canon.L1_eq]
  simp only [fLen_arr,List.length_map,bindO_s,fBin_lss,fCond_b,fBin_gtr]
  rw [if_neg (by simp;omega),List.drop_of_length_le (by omega)]
  simp only [lastsW,List.append_nil]
  by_cases h : acc.length ≤ 65536
  ·rw [if_neg (by simp;omega)];simp [h]
  ·rw [if_pos (by simp;omega)];simp [h]
 | succ n ih =>
  intro k acc hn hacc hk
  obtain ⟨c,hc⟩ : ∃ c,s[k]? = some c:=⟨_,List.getElem?_eq_getElem (by omega)⟩
  have hcc : s[k]'(by omega) = c:=by rw [List.getElem?_eq_getElem (by omega)] at hc;exact Option.some.inj hc
  have e1 : ∀ c : Cel,acc.map cellF ++ [[FV.int .i64 c.1,.int .i64 c.2.1,.int .i64 c.2.2]] = (acc ++ [c]).map cellF:=fun c => by simp [cellF]
  have ek : IntKind.i64.wrap ((k : Int) + 1) = ((k + 1 : Nat) : Int):=wrap64 (by omega) (by omega)
  have hroom : decide ((acc.length + 1) * 24 ≤ room) = true:=roomC (by omega)
  have hd : s.drop k = c :: s.drop (k + 1):=by rw [List.drop_eq_getElem_cons (by omega),hcc]
  have ih0:=ih (k + 1) acc (by omega) (by omega) (by omega)
  have ih1:=ih (k + 1) (acc ++ [c]) (by omega) (by simp;omega) (by omega)
  rw [ref01_Canon.L1_eq]
  simp only [fLen_arr,List.length_map,bindO_s,fBin_lss,fBin_add,fBin_eql,fCond_b,ek]
  rw [if_pos (by simp;omega),idxC hc]
  simp only [bindO_s,cellF,List.getElem?_cons_zero,List.getElem?_cons_succ,fBin_neq,fCond_b]
  have e1c:=e1 c
  rw [hroom]
  simp only [gB_t,e1c]
  by_cases hl : k + 1 = s.length
  ·rw [if_pos (by simp;omega)]
   have hdd : s.drop (k + 1) = []:=List.drop_of_length_le (by omega)
   have hlw : lastsW (s.drop k) = (match nzC c with | true => [c] | false => []):=by rw [hd,hdd];rfl
   rw [hlw]
   rw [hdd] at ih0 ih1
   simp only [lastsW,List.append_nil] at ih0 ih1
   by_cases hz : c.2.2 = 0
   ·rw [if_neg (by simp [hz]),ih0]
    have hnz : nzC c = false:=by simp [nzC,hz]
    simp [hnz]
   ·rw [if_pos (by simp [hz]),ih1]
    have hnz : nzC c = true:=by simp [nzC,hz]
    simp [hnz]
  ·obtain ⟨d,hdx⟩ : ∃ d,s[k + 1]? = some d:=⟨_,List.getElem?_eq_getElem (by omega)⟩
   have hddd : s[k + 1]'(by omega) = d:=by rw [List.getElem?_eq_getElem (by omega)] at hdx;exact Option.some.inj hdx
   have hd2 : s.drop (k + 1) = d :: s.drop (k + 2):=by rw [List.drop_eq_getElem_cons (by omega),hddd]
   rw [if_neg (by simp;omega),idxC hdx]
   simp only [bindO_s,cellF,List.getElem?_cons_zero,List.getElem?_cons_succ,fBin_neq,fCond_b]
   have hlw : lastsW (s.drop k) = (match smC d c with | true => lastsW (s.drop (k + 1)) | false => (match nzC c with | true => c :: lastsW (s.drop (k + 1)) | false => lastsW (s.drop (k + 1)))):=by rw [hd,hd2];rfl
   have hout : smC d c = false → (if decide (c.2.2 ≠ 0) = true then ref01_Canon.L1 (.arr (s.map cellF)) (.int .i64 ((k + 1 : Nat) : Int)) x0 x ((acc ++ [c]).map cellF) else ref01_Canon.L1 (.arr (s.map cellF)) (.int .i64 ((k + 1 : Nat) : Int)) x0 x (acc.map cellF)) =
     (match decide ((acc ++ lastsW (s.drop k)).length ≤ 65536) with | true => some (.tup [.arr ((acc ++ lastsW (s.drop k)).map cellF),.int .i64 0]) | false => some (.tup [.arr [],.int .i64 14])):=fun hsm => by
    rw [hlw,hsm]
    by_cases hz : c.2.2 = 0
    ·rw [if_neg (by simp [hz]),ih0]
     have hnz : nzC c = false:=by simp [nzC,hz]
     simp [hnz]
    ·rw [if_pos (by simp [hz]),ih1]
     have hnz : nzC c = true:=by simp [nzC,hz]
     simp [hnz]
   by_cases h0 : d.1 = c.1
   ·rw [if_neg (by simp [h0])]
    by_cases h1 : d.2.1 = c.2.1
    ·rw [if_neg (by simp [h1])]
     have hsm : smC d c = true:=by simp [smC,h0,h1]
     rw [hlw,hsm]
     exact ih0
    ·rw [if_pos (by simp [h1])]
     exact hout (by simp [smC,h1])
   ·rw [if_pos (by simp [h0])]
    exact hout (by simp [smC,h0])
theorem canon_l0 (l : List Cel) (hl : l.length ≤ 1000000) (x : FV) : ∀ (s : List Cel) (k : Nat),l.drop k = s →
  ref01_Canon.L0 (.arr (l.map cellF)) (.int .i64 (k : Int)) (.int .i64 0) x =
   (match decide (errC s = 0) with | false => some (.tup [.arr [],.int .i64 (errC s)]) | true => (match decide ((canonC l).length ≤ 65536) with | true => some (.tup [.arr ((canonC l).map cellF),.int .i64 0]) | false => some (.tup [.arr [],.int .i64 14]))):=by
 intro s
 induction s with
 | nil =>
  intro k hd
  have hk:=drop_nil hd
  rw [ref01_Canon.L0_eq]
  simp only [fLen_arr,List.length_map,bindO_s,fBin_lss,fCond_b]
  rw [if_neg (by simp;omega)]
  obtain ⟨t,ht,e⟩:=sorted_d _ l (Nat.le_refl _) hl
  rw [e,bindO_s]
  have:=canon_l1 t (by rw [ht.len];exact hl) (.int .i64 0) x t.length 0 [] (by omega) (by simp;rw [ht.len];exact hl) (by omega)
  simp only [List.map_nil,List.nil_append,List.drop_zero,ht.canon] at this
  have this' : ref01_Canon.L1 (.arr (t.map cellF)) (.int .i64 0) (.int .i64 0) x [] = _:=this
  rw [this']
  rfl
 | cons c s ih =>
  intro k hd
  obtain ⟨hk,hc,hs⟩:=drop_cons hd
  have ek : IntKind.i64.wrap ((k : Int) + 1) = ((k + 1 : Nat) : Int):=wrap64 (by omega) (by omega)
  have ih':=ih (k + 1) hs
  rw [ref01_Canon.L0_eq]
  simp only [fLen_arr,List.length_map,bindO_s,fBin_lss,fCond_b]
  rw [if_pos (by simp;omega),idxC hc]
  simp only [bindO_s,cellF,List.getElem?_cons_zero,List.getElem?_cons_succ,near_d,fUn_not,fCond_b,isState_d,fBin_add,ek]
  rw [ih']
  cases hf : farC c with
  | true => simp [errC,hf]
  | false =>
   cases hst : stateC c.2.2 with
   | false => simp [errC,hf,hst]
   | true => simp [errC,hf,hst]
def canonD (cs : List Cel) : FV:=match decide (errC cs = 0) with
 | false => .tup [.arr [],.int .i64 (errC cs)]
 | true => match decide ((canonC cs).length ≤ 65536) with
  | true => .tup [.arr ((canonC cs).map cellF),.int .i64 0]
  | false => .tup [.arr [],.int .i64 14]
theorem canon_d (l : List Cel) (hl : l.length ≤ 1000000) (x : FV) : ref01_Canon (.agg [.int .i64 0,x]) (.arr (l.map cellF)) = some (canonD l):=by
 rw [ref01_Canon.eq]
 simp only [fIsAgg_agg,List.length_cons,List.length_nil,fCell_zero,fCell_succ,check_d,bindO_s,fBin_neq,fCond_b]
 have h:=canon_l0 l hl x l 0 rfl
 rw [show ((0 : Nat) : Int) = 0 from rfl] at h
 rw [h]
 unfold canonD
 cases decide (errC l = 0) with
 | false => rfl
 | true => cases decide ((canonC l).length ≤ 65536) <;> rfl
theorem celsF_cells : ∀ l : List Cel,celsF (l.map cellF) = some l
 | [] => rfl
 | c :: l => by simp [celsF,celF,cellF,celsF_cells l]
theorem same_l0 (l : List Cel) (hl : l.length ≤ 1000000) : ∀ (s : List Cel) (k : Nat),l.drop k = s → law08_same.L0 (.arr (l.map cellF)) (.arr (l.map cellF)) (.int .i64 (k : Int)) = some (.bool true):=by
 intro s
 induction s with
 | nil =>
  intro k hd
  have hk:=drop_nil hd
  rw [law08_same.L0_eq]
  simp only [fLen_arr,List.length_map,bindO_s,fBin_lss,fCond_b]
  rw [if_neg (by simp;omega)]
 | cons c s ih =>
  intro k hd
  obtain ⟨hk,hc,hs⟩:=drop_cons hd
  have ek : IntKind.i64.wrap ((k : Int) + 1) = ((k + 1 : Nat) : Int):=wrap64 (by omega) (by omega)
  rw [law08_same.L0_eq]
  simp only [fLen_arr,List.length_map,bindO_s,fBin_lss,fCond_b]
  rw [if_pos (by simp;omega),idxC hc]
  simp only [bindO_s,cellF,List.getElem?_cons_zero,List.getElem?_cons_succ,fBin_add,ek]
  have hagg : fAggBin [.int,.int,.int] .neq [FV.int .i64 c.1,.int .i64 c.2.1,.int .i64 c.2.2] [FV.int .i64 c.1,.int .i64 c.2.1,.int .i64 c.2.2] = some (.bool false):=by simp [fAggBin,cellsEq,scalarEq]
  rw [hagg]
  simp only [bindO_s,fCond_b]
  rw [if_neg (by simp)]
  exact ih (k + 1) hs
end Go.Proofs.YtpffkpaiihcffaaGreatDoor
end
section
namespace Go.Proofs.YtpffkpaiihcffaaGreatDoor
open Go Go.Proofs Go.Proofs.YtpffkpaiihcffaaGreatDoor.VM Go.RowKit
theorem snocF (acc : List Cel) (a b s : Int) : acc.map cellF ++ [[FV.int .i64 a,.int .i64 b,.int .i64 s]] = (acc ++ [(a,b,s)]).map cellF:=by simp [cellF]
end Go.Proofs.YtpffkpaiihcffaaGreatDoor
end
section
namespace Go.Proofs.YtpffkpaiihcffaaGreatDoor
open Go Go.Proofs Go.Proofs.YtpffkpaiihcffaaGreatDoor.VM Go.RowKit
def wordT : List (List UInt8 × Int):=[([48,48,48,48],9),([48,48,48,49],10),([48,48,49],11),([48,49,48],12),([48,49,49],17),([49,48,48],18),([49,48,49],19),([49,49,48],20),([49,49,49],25)]
noncomputable def wordL (s j : Int) : R:=cells_Word.L0 (.int .i64 s) (.str [48,48,48,48]) (.int .i64 9) (.str [48,48,48,49]) (.int .i64 10) (.str [48,48,49]) (.int .i64 11) (.str [48,49,48]) (.int .i64 12) (.str [48,49,49]) (.int .i64 17) (.str [49,48,48]) (.int .i64 18) (.str [49,48,49]) (.int .i64 19) (.str [49,49,48]) (.int .i64 20) (.str [49,49,49]) (.int .i64 25) (.int .i64 j)
theorem word_end (s : Int) : wordL s 9 = some (.tup [.str [],.bool false]):=by
 unfold wordL
 rw [cells_Word.L0_eq]
 simp
theorem word_step (s : Int) (j : Nat) (p : List UInt8 × Int) (h : wordT[j]? = some p) : wordL s (j : Int) = if p.2 = s then some (.tup [.str (49 :: p.1),.bool true]) else wordL s ((j + 1 : Nat) : Int):=by
 have hj : j < 9:=(List.getElem?_eq_some_iff.1 h).1
 have ej : IntKind.i64.wrap ((j : Int) + 1) = ((j + 1 : Nat) : Int):=wrap64 (by omega) (by omega)
 unfold wordL
 rw [cells_Word.L0_eq]
 simp only [fBin_lss,bindO_s,fCond_b,asNat_nat,ej,fBin_add]
 rw [if_pos (by simp;omega)]
 have fs : ∀ b : List UInt8,b.length ≤ 9 → fBin .add (.str [49]) (.str b) = some (.str (49 :: b)):=fun b hb => by simp [fBin];omega
 match j,hj,h with
 | 0,_,h | 1,_,h | 2,_,h | 3,_,h | 4,_,h | 5,_,h | 6,_,h | 7,_,h | 8,_,h =>
  cases h
  simp [fs]
theorem word_d (s : Int) : ∃ w,ref01_Word (.int .i64 s) = some (.tup [.str w,.bool (quietC s)]):=by
 rw [ref01_Word.eq]
 simp only [fBin_eql,bindO_s,fCond_b]
 unfold quietC
 by_cases h0 : s = 9
 ·subst h0;exact ⟨_,rfl⟩
 by_cases h1 : s = 10
 ·subst h1;exact ⟨_,rfl⟩
 by_cases h2 : s = 11
 ·subst h2;exact ⟨_,rfl⟩
 by_cases h3 : s = 12
 ·subst h3;exact ⟨_,rfl⟩
 by_cases h4 : s = 17
 ·subst h4;exact ⟨_,rfl⟩
 by_cases h5 : s = 18
 ·subst h5;exact ⟨_,rfl⟩
 by_cases h6 : s = 19
 ·subst h6;exact ⟨_,rfl⟩
 by_cases h7 : s = 20
 ·subst h7;exact ⟨_,rfl⟩
 by_cases h8 : s = 25
 ·subst h8;exact ⟨_,rfl⟩
 exact ⟨[],by simp [h0,h1,h2,h3,h4,h5,h6,h7,h8]⟩
theorem nine_d (s : Int) : ref08_Nine (.int .i64 s) = some (.bool (quietC s)):=by
 obtain ⟨w,h⟩:=word_d s
 rw [ref08_Nine.eq,h]
 rfl
def rightB (k c : Int) : Bool:=if k = 7 ∨ k = 8 then quietC c else decide (1 ≤ k) && (decide (k ≤ 6) && decide (c = 0))
theorem right_d (k c : Int) : ref08_Right (.agg [.int .i64 k,.int .i64 c]) = some (.bool (rightB k c)):=by
 rw [ref08_Right.eq]
 simp only [fIsAgg_agg,List.length_cons,List.length_nil,fCell_zero,fCell_succ,fBin_lss,fBin_gtr,bindO_s,fCond_b,ref08_Right.L0_eq,ref08_Right.L1_eq,fBin_eql,nine_d,rightB]
 by_cases h7 : k = 7
 ·subst h7;simp
 by_cases h8 : k = 8
 ·subst h8;simp
 by_cases h1 : k < 1
 ·simp [h1,h7,h8];intro h;omega
 by_cases h2 : 8 < k
 ·simp [h1,h2,h7,h8];intro h;omega
 have h3 : 1 ≤ k:=by omega
 have h4 : k ≤ 6:=by omega
 simp [h1,h2,h3,h4,h7,h8]
end Go.Proofs.YtpffkpaiihcffaaGreatDoor
end
section
namespace Go.Proofs.YtpffkpaiihcffaaGreatDoor
open Go Go.Proofs Go.Proofs.YtpffkpaiihcffaaGreatDoor.VM Go.RowKit
theorem same_out (L : List Cel) (hl : L.length ≤ 1000000) : law08_same (outC L) (.arr (L.map cellF)) = some (.bool true):=by
 rw [law08_same.eq]
 cases L with
 | nil =>
  simp only [outC,fLen_nil,fLen_arr,List.map_nil,List.length_nil,bindO_s,fBin_neq,fCond_b]
  rw [if_neg (by simp),law08_same.L0_eq]
  simp
 | cons c l =>
  simp only [outC,fLen_arr,bindO_s,fBin_neq,fCond_b]
  rw [if_neg (by simp)]
  exact same_l0 (c :: l) hl (c :: l) 0 rfl
theorem canonC_len (l : List Cel) : (canonC l).length ≤ l.length:=by
 have:=List.length_filter_le nzC (lastC l)
 have:=lastC_len l
 rw [canonC,sortC_len];omega
end Go.Proofs.YtpffkpaiihcffaaGreatDoor
end
section
namespace Go.Proofs.YtpffkpaiihcffaaGreatDoor
open Go Go.Proofs Go.Proofs.YtpffkpaiihcffaaGreatDoor.VM Go.RowKit
end Go.Proofs.YtpffkpaiihcffaaGreatDoor
end
section
namespace Go.Proofs.YtpffkpaiihcffaaGreatDoor
open Go Go.Proofs Go.Proofs.YtpffkpaiihcffaaGreatDoor.VM Go.RowKit
end Go.Proofs.YtpffkpaiihcffaaGreatDoor
end
section
namespace Go.Proofs.YtpffkpaiihcffaaGreatDoor
open Go Go.Proofs Go.Proofs.YtpffkpaiihcffaaGreatDoor.VM Go.RowKit
theorem proper_l0 (l : List Cel) (x : FV) (hl : l.length ≤ 1000000) : ∀ (s : List Cel) (k : Nat),l.drop k = s →
  ref01_proper.L0 (.bool true) (.arr (l.map cellF)) (.int .i64 (k : Int)) (.int .i64 0) x =
   some (.int .i64 (match decide (lookC (match k with | 0 => none | k + 1 => l[k]?) s = 0) with | false => lookC (match k with | 0 => none | k + 1 => l[k]?) s | true => (match decide (l.length ≤ 65536) with | true => 0 | false => 14))):=by
 intro s
 induction s with
 | nil =>
  intro k hd
  have hk:=drop_nil hd
  rw [ref01_proper.L0_eq]
  simp only [fBin_lss,bindO_s,fCond_b,fLen_arr,List.length_map,fBin_gtr,lookC]
  rw [if_neg (by rw [decide_eq_true_eq];omega)]
  by_cases h : l.length ≤ 65536
  ·rw [if_neg (by rw [decide_eq_true_eq];omega)];simp [h]
  ·rw [if_pos (decide_eq_true (by omega))];simp [h]
 | cons c s ih =>
  intro k hd
  obtain ⟨hk,hc,hs⟩:=drop_cons hd
  have ej : IntKind.i64.wrap ((k : Int) + 1) = ((k + 1 : Nat) : Int):=wrap64 (by omega) (by omega)
  have ih':=ih (k + 1) hs
  simp only [hc] at ih'
  rw [ref01_proper.L0_eq]
  simp only [fBin_lss,bindO_s,fCond_b,fLen_arr,List.length_map]
  rw [if_pos (decide_eq_true (by omega)),idxC hc]
  simp only [cellF,List.getElem?_cons_succ,List.getElem?_cons_zero,bindO_s,near_d,fCond_b,fUn_not,fBin_lss,isState_d,Bool.not_not]
  cases hf : farC c with
  | true => simp [lookC,hf]
  | false =>
   have hst : (stateC c.2.2 && !decide (c.2.2 = 0)) = (!decide (c.2.2 < 1) && stateC c.2.2):=by
    rw [Bool.eq_iff_iff];simp [stateC];omega
   simp only [Bool.false_eq_true,if_false]
   by_cases h1 : c.2.2 < 1
   ·rw [if_pos (decide_eq_true h1)]
    simp [lookC,hf,hst,h1]
   ·rw [if_neg (by rw [decide_eq_true_eq];exact h1)]
    cases h2 : stateC c.2.2 with
    | false => simp [lookC,hf,hst,h1,h2]
    | true =>
     have hst' : (stateC c.2.2 && !decide (c.2.2 = 0)) = true:=by rw [hst,h2];simp [h1]
     simp only [Bool.not_true,Bool.false_eq_true,if_false,if_true]
     rw [ref01_proper.L1_eq]
     simp only [fBin_gtr,bindO_s,fCond_b]
     match k,hk,hc,ej,ih' with
     | 0,hk,hc,ej,ih' =>
      rw [if_neg (by simp),fBin_add,ej]
      simp only [bindO_s]
      rw [ih']
      simp [lookC,hf,hst']
     | k + 1,hk,hc,ej,ih' =>
      have hp : l[k]? = some l[k]:=List.getElem?_eq_getElem (by omega)
      have es : IntKind.i64.wrap (((k + 1 : Nat) : Int) - 1) = (k : Int):=by rw [show (((k + 1 : Nat) : Int) - 1) = (k : Int) by omega];exact wrap64 (by omega) (by omega)
      rw [if_pos (decide_eq_true (by omega)),idxC hc,fBin_sub,es]
      simp only [bindO_s]
      rw [idxC hp]
      have hb:=behind_d c l[k]
      simp only [cellF] at hb
      simp only [bindO_s,cellF,List.getElem?_cons_succ,List.getElem?_cons_zero,hb,fUn_not,fCond_b,fBin_add,ej]
      cases hbf : befC l[k] c with
      | false => simp [lookC,hf,hst',hp,hbf]
      | true =>
       rw [if_neg (by simp),ih']
       simp [lookC,hf,hst',hp,hbf]
theorem proper_d (l : List Cel) (x : FV) (hl : l.length ≤ 1000000) : ref01_Proper (.agg [.int .i64 0,x]) (.arr (l.map cellF)) = some (.int .i64 (properC l)):=by
 rw [ref01_Proper.eq,ref01_proper.eq]
 have h:=proper_l0 l x hl l 0 rfl
 rw [show ((0 : Nat) : Int) = 0 from rfl] at h
 simp only [fIsAgg_agg,List.length_cons,List.length_nil,fCell_zero,fCell_succ,check_d,bindO_s,fBin_neq,fCond_b,h]
 rfl
theorem at_l0 (l : List Cel) (hl : l.length ≤ 1000000) (x y : Int) : ∀ (s : List Cel) (k : Nat),l.drop k = s → ref01_At.L0 (.arr (l.map cellF)) (.int .i64 x) (.int .i64 y) (.int .i64 (k : Int)) = some (.int .i64 (atI s x y)):=by
 intro s
 induction s with
 | nil =>
  intro k hd
  have hk:=drop_nil hd
  rw [ref01_At.L0_eq]
  simp only [fLen_arr,List.length_map,bindO_s,fBin_lss,fCond_b]
  rw [if_neg (by rw [decide_eq_true_eq];omega)]
  rfl
 | cons c s ih =>
  intro k hd
  obtain ⟨hk,hc,hs⟩:=drop_cons hd
  have ej : IntKind.i64.wrap ((k : Int) + 1) = ((k + 1 : Nat) : Int):=wrap64 (by omega) (by omega)
  rw [ref01_At.L0_eq]
  simp only [fLen_arr,List.length_map,bindO_s,fBin_lss,fCond_b]
  rw [if_pos (decide_eq_true (by omega)),idxC hc]
  simp only [bindO_s,cellF,List.getElem?_cons_zero,List.getElem?_cons_succ,fBin_eql,fCond_b,fBin_add,ej,atI]
  by_cases h : c.1 = x
  ·rw [if_pos (decide_eq_true h)]
   by_cases h2 : c.2.1 = y
   ·rw [if_pos (decide_eq_true h2),if_pos ⟨h,h2⟩]
   ·rw [if_neg (by rw [decide_eq_true_eq];exact h2),if_neg (fun e => h2 e.2)]
    exact ih (k + 1) hs
  ·rw [if_neg (by rw [decide_eq_true_eq];exact h),if_neg (fun e => h e.1)]
   exact ih (k + 1) hs
theorem at_d (l : List Cel) (hl : l.length ≤ 1000000) (x y : Int) : ref01_At (.arr (l.map cellF)) (.int .i64 x) (.int .i64 y) = some (.int .i64 (atI l x y)):=by
 rw [ref01_At.eq]
 exact at_l0 l hl x y l 0 rfl
end Go.Proofs.YtpffkpaiihcffaaGreatDoor
end
section
namespace Go.Proofs.YtpffkpaiihcffaaGreatDoor
open Go Go.Proofs.YtpffkpaiihcffaaGreatDoor.VM
abbrev tcsArmWorld : List TC:=[(.sl 16 (.cons (.int .i64) (.cons (.int .i64) .nil))),(.sl 24 (.cons (.int .i64) (.cons (.int .i64) (.cons (.int .i64) .nil))))]
end Go.Proofs.YtpffkpaiihcffaaGreatDoor
end
section
namespace Go.Proofs.YtpffkpaiihcffaaGreatDoor
open Go Go.Proofs Go.Proofs.YtpffkpaiihcffaaGreatDoor.VM Go.RowKit
structure RowsX (n : Nat) (x : FV) (r : List (List FV)) : Prop where
 len : fLen x = some (.int .i64 (r.length : Int))
 idx : ∀ (k : Nat) c,r[k]? = some c → fIdxC n x (.int .i64 (k : Int)) = some c
 rows : asRows x = some r
theorem rowsX_nil (n : Nat) : RowsX n .nilS []:=⟨rfl,fun k c h => by simp at h,rfl⟩
theorem rowsX_arr {n : Nat} {r : List (List FV)} (h : ∀ c ∈ r,c.length = n) : RowsX n (.arr r) r:=⟨rfl,fun k c hc => idx_arr hc (h c (List.mem_of_getElem? hc)),rfl⟩
def mvF (m : Mv) : List FV:=[.int .i64 m.1,.int .i64 m.2]
theorem inBox_d (x y a b c d : Int) : ref08_inBox (.int .i64 x) (.int .i64 y) (.int .i64 a) (.int .i64 b) (.int .i64 c) (.int .i64 d) = some (.bool (decide (a ≤ x) && (decide (x ≤ b) && (decide (c ≤ y) && decide (y ≤ d))))):=by
 rw [ref08_inBox.eq]
 simp only [fBin_geq,fBin_leq,bindO_s,fCond_b]
 by_cases h1 : a ≤ x <;> by_cases h2 : x ≤ b <;> by_cases h3 : c ≤ y <;> simp [h1,h2,h3]
theorem neg64 {n : Int} (h1 : -1000000 ≤ n) (h2 : n ≤ 1000000) : fUn .neg (.int .i64 n) = some (.int .i64 (-n)):=by
 show some (FV.int .i64 (IntKind.i64.wrap (0 - n))) = _
 rw [wrap64 (by omega) (by omega),Int.zero_sub]
theorem inRoom_d {h v k s x y : Int} (hk : 1 ≤ k) (hh : 0 ≤ h ∧ h ≤ 100) (hv : -10 ≤ v ∧ v ≤ 100) : ref08_InRoom (.int .i64 h) (.int .i64 v) (.agg [.int .i64 k,.int .i64 s]) (.int .i64 x) (.int .i64 y) = some (.bool (roomD h v k x y)):=by
 have w1 : IntKind.i64.wrap (h + 1) = h + 1:=wrap64 (by omega) (by omega)
 have w2 : IntKind.i64.wrap (h + 2) = h + 2:=wrap64 (by omega) (by omega)
 have w3 : IntKind.i64.wrap (h + 3) = h + 3:=wrap64 (by omega) (by omega)
 have w4 : IntKind.i64.wrap (v + 1) = v + 1:=wrap64 (by omega) (by omega)
 have w5 : IntKind.i64.wrap (v + 2) = v + 2:=wrap64 (by omega) (by omega)
 have n1:=neg64 (n:=v + 1) (by omega) (by omega)
 have n2:=neg64 (n:=v + 2) (by omega) (by omega)
 have l1 : ref08_InRoom.L1 (.int .i64 h) (.int .i64 v) (.int .i64 x) (.int .i64 y) (.int .i64 k) (.int .i64 s) = some (.bool (decide (h + 1 ≤ x) && (decide (x ≤ h + 2) && (decide (-(v + 2) ≤ y) && decide (y ≤ 1))))):=by
  rw [ref08_InRoom.L1_eq]
  simp only [fBin_add,bindO_s,w1,w2,w5,n2,inBox_d]
 have l0 : ∀ b : Bool,(b = decide (k ≤ 3)) → ref08_InRoom.L0 (.int .i64 h) (.int .i64 v) (.int .i64 x) (.int .i64 y) (.int .i64 k) (.bool b) (.int .i64 k) (.int .i64 s) = some (.bool (roomD h v k x y)):=by
  rintro b rfl
  rw [ref08_InRoom.L0_eq]
  simp only [fBin_add,bindO_s,w1,w3,w4,n1,inBox_d,fBin_eql,fCond_b,l1]
  unfold roomD
  by_cases k3 : k ≤ 3
  ·simp [k3]
  ·by_cases k6 : k = 6
   ·simp [k6]
   ·by_cases hx : x = h
    ·by_cases hy : y = -(v + 1)
     ·by_cases k7 : k = 7
      ·simp [k7,hx,hy]
      ·simp [k3,k6,k7,hx,hy]
     ·simp [k3,k6,hx,hy]
    ·simp [k3,k6,hx]
 rw [ref08_InRoom.eq]
 simp only [fIsAgg_agg,List.length_cons,List.length_nil,fCell_zero,fCell_succ,fBin_eql,bindO_s,fCond_b,Nat.zero_add,Nat.reduceAdd,beq_self_eq_true,gB_t]
 by_cases k1 : k = 1
 ·rw [if_pos (decide_eq_true k1)];exact l0 _ (by rw [decide_eq_true k1,decide_eq_true (by omega)])
 ·rw [if_neg (by simpa using k1)]
  by_cases k2 : k = 2
  ·rw [if_pos (decide_eq_true k2)];exact l0 _ (by rw [decide_eq_true k2,decide_eq_true (by omega)])
  ·rw [if_neg (by simpa using k2)]
   refine l0 _ ?_
   rw [Bool.eq_iff_iff,decide_eq_true_eq,decide_eq_true_eq];omega
theorem blocked_l0 (now : List Cel) (hl : now.length ≤ 100000) {h v k : Int} (s : Int) (hk : 1 ≤ k) (hh : 0 ≤ h ∧ h ≤ 100) (hv : -10 ≤ v ∧ v ≤ 100) : ∀ (t : List Cel) (i : Nat),now.drop i = t →
  ref08_blocked.L0 (.arr (now.map cellF)) (.int .i64 h) (.int .i64 v) (.int .i64 (i : Int)) (.int .i64 k) (.int .i64 s) = some (.bool (t.any (hitD h v k))):=by
 intro t
 induction t with
 | nil =>
  intro i hd
  have hk:=drop_nil hd
  rw [ref08_blocked.L0_eq]
  simp only [fLen_arr,List.length_map,bindO_s,fBin_lss,fCond_b]
  rw [if_neg (by simp;omega)];rfl
 | cons c t ih =>
  intro i hd
  obtain ⟨hi,hc,ht⟩:=drop_cons hd
  have ek : IntKind.i64.wrap ((i : Int) + 1) = ((i + 1 : Nat) : Int):=wrap64 (by omega) (by omega)
  have ih':=ih (i + 1) ht
  have w4 : IntKind.i64.wrap (v + 1) = v + 1:=wrap64 (by omega) (by omega)
  have n1:=neg64 (n:=v + 1) (by omega) (by omega)
  rw [ref08_blocked.L0_eq]
  simp only [fLen_arr,List.length_map,bindO_s,fBin_lss,fCond_b]
  rw [if_pos (by simp;omega),idxC hc]
  simp only [bindO_s,cellF,List.getElem?_cons_zero,List.getElem?_cons_succ,fBin_eql,fBin_add,ek,w4,n1,inRoom_d hk hh hv,fCond_b,fUn_not,ih',List.any_cons,hitD]
  by_cases hx : c.1 = h
  ·by_cases hy : c.2.1 = -(v + 1)
   ·by_cases k8 : k = 8
    ·cases roomD h v k c.1 c.2.1 <;> simp [hx,hy,k8]
    ·cases hr : roomD h v k c.1 c.2.1 <;> simp [hx,hy,k8] <;> simp_all
   ·cases hr : roomD h v k c.1 c.2.1 <;> simp [hx,hy] <;> simp_all
  ·cases hr : roomD h v k c.1 c.2.1 <;> simp [hx]
theorem blocked_d (now : List Cel) (hl : now.length ≤ 100000) {h v k : Int} (s : Int) (hk : 1 ≤ k) (hh : 0 ≤ h ∧ h ≤ 100) (hv : -10 ≤ v ∧ v ≤ 100) : ref08_blocked (.arr (now.map cellF)) (.int .i64 h) (.int .i64 v) (.agg [.int .i64 k,.int .i64 s]) = some (.bool (blkD now h v k)):=by
 rw [ref08_blocked.eq]
 simp only [fIsAgg_agg,List.length_cons,List.length_nil,fCell_zero,fCell_succ,Nat.zero_add,Nat.reduceAdd,beq_self_eq_true,gB_t]
 exact blocked_l0 now hl s hk hh hv now 0 rfl
theorem after_e (h v k s : Int) : ∃ a b,ref08_After (.int .i64 h) (.int .i64 v) (.agg [.int .i64 k,.int .i64 s]) = some (.tup [.int .i64 a,.int .i64 b,.int .i64 (errA h v k s)]) ∧ (errA h v k s = 0 → a = toH h k ∧ b = toV v k):=by
 have okS : okA = stB:=rfl
 have rgS : rgtA k s = rightB k s:=rfl
 unfold errA
 rw [okS,rgS,ref08_After.eq]
 simp only [fIsAgg_agg,List.length_cons,List.length_nil,fCell_zero,fCell_succ,stands_d,right_d,bindO_s,fUn_not,fCond_b,gB_t,Nat.zero_add,Nat.reduceAdd,beq_self_eq_true]
 cases hs : stB h v with
 | false => exact ⟨0,0,rfl,fun e => by simp at e⟩
 | true =>
  cases hr : rightB k s with
  | false => exact ⟨0,0,rfl,fun e => by simp at e⟩
  | true =>
   simp only [stB,Bool.and_eq_true,decide_eq_true_eq] at hs
   obtain ⟨q1,q2,q3,q4⟩:=hs
   have w1 : IntKind.i64.wrap (h + 1) = h + 1:=wrap64 (by omega) (by omega)
   have w2 : IntKind.i64.wrap (h - 1) = h - 1:=wrap64 (by omega) (by omega)
   have w3 : IntKind.i64.wrap (v + 1) = v + 1:=wrap64 (by omega) (by omega)
   have w4 : IntKind.i64.wrap (v - 1) = v - 1:=wrap64 (by omega) (by omega)
   have hk : k = 1 ∨ k = 2 ∨ k = 3 ∨ k = 4 ∨ k = 5 ∨ k = 6 ∨ k = 7 ∨ k = 8:=by
    unfold rightB at hr
    split at hr
    ·omega
    ·simp only [Bool.and_eq_true,decide_eq_true_eq] at hr;omega
   have fin : ∀ a b : Int,∃ p q : Int,(if stB a b = false then some (FV.tup [.int .i64 0,.int .i64 0,.int .i64 81]) else some (FV.tup [.int .i64 a,.int .i64 b,.int .i64 0])) = some (FV.tup [.int .i64 p,.int .i64 q,.int .i64 (match stB a b with | false => 81 | true => 0)]) ∧ ((match stB a b with | false => (81 : Int) | true => 0) = 0 → p = a ∧ q = b):=fun a b => by
    cases stB a b with
    | false => exact ⟨0,0,rfl,fun e => by simp at e⟩
    | true => exact ⟨a,b,rfl,fun _ => ⟨rfl,rfl⟩⟩
   simp only [Bool.not_true,Bool.false_eq_true,if_false,fBin_eql,fBin_lss,fBin_leq,fBin_geq,fBin_neq,fBin_add,fBin_sub,bindO_s,fCond_b,fUn_not,fBoolBin_neq,w1,w2,w3,w4,ref08_After.L1_eq,ref08_After.L0_eq,stands_d,Bool.true_and]
   by_cases y1 : v = -1
   ·subst y1
    rcases hk with rfl | rfl | rfl | rfl | rfl | rfl | rfl | rfl <;> simp [flatA,toH,toV] <;> exact fin _ _
   ·have y2 : ¬ v < 0:=by omega
    by_cases y3 : v = 0
    ·subst y3
     rcases hk with rfl | rfl | rfl | rfl | rfl | rfl | rfl | rfl <;> simp [flatA,toH,toV] <;> exact fin _ _
    ·have y4 : ¬ v < 1:=by omega
     have y5 : 1 ≤ v:=by omega
     rcases hk with rfl | rfl | rfl | rfl | rfl | rfl | rfl | rfl <;> simp [flatA,toH,toV,y1,y2,y3,y4,y5] <;> exact fin _ _
theorem canon_fit {l : List Cel} (h : FitC l) (hl : l.length ≤ 20000) (x : FV) : ref01_Canon (.agg [.int .i64 0,x]) (.arr (l.map cellF)) = some (.tup [.arr ((canonC l).map cellF),.int .i64 0]):=by
 have:=canonC_len l
 rw [canon_d l (by omega)]
 unfold canonD
 rw [fit_err h,decide_eq_true (show (canonC l).length ≤ 65536 by omega)]
 rfl
theorem canon_sub {l : List Cel} {c : Cel} (h : c ∈ canonC l) : c ∈ l:=(List.mem_filter.1 (List.mem_of_getLast? (canonC_mem.1 h).1)).1
theorem snoc_fit {now : List Cel} {c : Cel} (h : FitC now) (h1 : farC c = false) (h2 : stateC c.2.2 = true) : FitC (now ++ [c]):=fun d hd => by
 rcases List.mem_append.1 hd with hd | hd
 ·exact h d hd
 ·rw [List.mem_singleton.1 hd];exact ⟨h1,h2⟩
theorem near_at {h v s : Int} (e : okA h v = true) : farC (h,-(v + 1),s) = false:=by
 simp only [okA,Bool.and_eq_true,decide_eq_true_eq] at e
 simp only [farC,Bool.or_eq_false_iff,decide_eq_false_iff_not]
 omega
theorem put_fit' {now : List Cel} {h v k s : Int} (hn : FitC now) (e : errA h v k s = 0) (h7 : k = 7) : FitC (now ++ [(h,-(v + 1),s)]):=by
 obtain ⟨e1,e2,_⟩:=err_kinds e
 refine snoc_fit hn (near_at e1) ?_
 unfold rgtA at e2
 rw [if_pos (.inl h7)] at e2
 exact quiet_state e2
theorem del_fit' {now : List Cel} {h v : Int} (hn : FitC now) (e : okA h v = true) : FitC (now ++ [(h,-(v + 1),0)]):=snoc_fit hn (near_at e) (show stateC 0 = true by decide)
theorem next_fit {now : List Cel} {h v k s : Int} (hn : FitC now) (e : errA h v k s = 0) : FitC (nextD now h v k s) ∧ (nextD now h v k s).length ≤ now.length + 1:=by
 unfold nextD
 by_cases h7 : k = 7
 ·simp only [decide_eq_true h7]
  refine ⟨fun c hc => put_fit' hn e h7 c (canon_sub hc),?_⟩
  have:=canonC_len (now ++ [(h,-(v + 1),s)])
  simpa using this
 ·simp only [decide_eq_false h7]
  by_cases h8 : k = 8
  ·simp only [decide_eq_true h8]
   refine ⟨fun c hc => del_fit' hn (err_kinds e).1 c (canon_sub hc),?_⟩
   have:=canonC_len (now ++ [(h,-(v + 1),0)])
   simpa using this
  ·simp only [decide_eq_false h8];exact ⟨hn,by omega⟩
theorem agg_zero (k s : Int) : fAggBin [.int,.int] .eql [.int .i64 k,.int .i64 s] [.int .i64 0,.int .i64 0] = some (.bool (decide (k = 0) && decide (s = 0))):=by
 by_cases h : k = 0 <;> by_cases g : s = 0 <;> simp [fAggBin,cellsEq,scalarEq,h,g]
theorem world_step {x0 : FV} (j : Nat) (hj : j ≤ 1000) {h v k s : Int} (e : errA h v k s = 0) {now : List Cel} (hn : FitC now) (hl : now.length ≤ 10000) (x5 : FV) (r6 : List (List FV)) :
  ref08_World.L5 x0 (.int .i64 (j : Int)) (.int .i64 (toH h k)) (.int .i64 (toV v k)) (.int .i64 h) (.int .i64 (-(v + 1))) (.int .i64 0) x5 r6 (now.map cellF) (.int .i64 k) (.int .i64 s) =
   ref08_World.L4 x0 (.int .i64 (toH h k)) (.int .i64 (toV v k)) (.int .i64 ((j + 1 : Nat) : Int)) (.int .i64 0) x5 r6 ((nextD now h v k s).map cellF):=by
 have ek : IntKind.i64.wrap ((j : Int) + 1) = ((j + 1 : Nat) : Int):=wrap64 (by omega) (by omega)
 have l7 : ∀ r : List (List FV),ref08_World.L7 x0 (.int .i64 (j : Int)) (.int .i64 (toH h k)) (.int .i64 (toV v k)) (.int .i64 0) x5 r6 r = ref08_World.L4 x0 (.int .i64 (toH h k)) (.int .i64 (toV v k)) (.int .i64 ((j + 1 : Nat) : Int)) (.int .i64 0) x5 r6 r:=fun r => by
  rw [ref08_World.L7_eq,fBin_add,ek];rfl
 have l6 : ∀ nw : List Cel,(k = 8 → nw = now) → ref08_World.L6 x0 (.int .i64 (j : Int)) (.eptr [.int .i64 k,.int .i64 s] 0) (.int .i64 (toH h k)) (.int .i64 (toV v k)) (.int .i64 h) (.int .i64 (-(v + 1))) (.int .i64 0) x5 r6 (nw.map cellF) =
   ref08_World.L4 x0 (.int .i64 (toH h k)) (.int .i64 (toV v k)) (.int .i64 ((j + 1 : Nat) : Int)) (.int .i64 0) x5 r6 ((if k = 8 then canonC (now ++ [(h,-(v + 1),0)]) else nw).map cellF):=fun nw hw => by
  rw [ref08_World.L6_eq]
  have a1 : fAddrO (.eptr [.int .i64 k,.int .i64 s] 0) 0 = some (.eptr [.int .i64 k,.int .i64 s] 0):=rfl
  have a2 : fLd (.eptr [.int .i64 k,.int .i64 s] 0) 0 = some (.int .i64 k):=rfl
  simp only [a1,a2,bindO_s,fBin_eql,fCond_b]
  by_cases h8 : k = 8
  ·obtain rfl:=hw h8
   rw [if_pos (decide_eq_true h8),List.length_map,roomC (by omega),gB_t,snocF,canon_fit (del_fit' hn (err_kinds e).1) (by simp;omega),if_pos h8]
   simp only [bindO_s,fIsTup_tup,List.length_cons,List.length_nil,fTup_zero,Nat.zero_add,Nat.reduceAdd,beq_self_eq_true,gB_t,arrRows_arr,l7]
  ·rw [if_neg (by simpa using h8),l7,if_neg h8]
 rw [ref08_World.L5_eq]
 simp only [fBin_eql,bindO_s,fCond_b]
 unfold nextD
 by_cases h7 : k = 7
 ·have h8 : ¬ k = 8:=by omega
  rw [if_pos (decide_eq_true h7),List.length_map,roomC (by omega),gB_t,snocF,canon_fit (put_fit' hn e h7) (by simp;omega)]
  simp only [bindO_s,fIsTup_tup,List.length_cons,List.length_nil,fTup_zero,Nat.zero_add,Nat.reduceAdd,beq_self_eq_true,gB_t,arrRows_arr]
  rw [l6 _ (fun e => absurd e h8),if_neg h8,decide_eq_true h7]
 ·rw [if_neg (by simpa using h7),l6 now (fun _ => rfl),decide_eq_false h7]
  by_cases h8 : k = 8
  ·rw [if_pos h8,decide_eq_true h8]
  ·rw [if_neg h8,decide_eq_false h8]
theorem world_l4 {x0 : FV} (ms : List Mv) (hx : RowsX 2 x0 (ms.map mvF)) (hm : ms.length ≤ 1000) (x5 : FV) (r6 : List (List FV)) : ∀ (t : List Mv) (j : Nat) (h v : Int) (now : List Cel),ms.drop j = t → okA h v = true → FitC now → now.length + t.length ≤ 10000 →
  ref08_World.L4 x0 (.int .i64 h) (.int .i64 v) (.int .i64 (j : Int)) (.int .i64 0) x5 r6 (now.map cellF) =
   some (.tup [.int .i64 (goD t h v now j).1,.int .i64 (goD t h v now j).2.1,.arr ((goD t h v now j).2.2.1.map cellF),.int .i64 (goD t h v now j).2.2.2,.int .i64 0]):=by
 intro t
 induction t with
 | nil =>
  intro j h v now hd ho hn hl
  have hj:=drop_nil hd
  rw [ref08_World.L4_eq,hx.len]
  simp only [List.length_map,bindO_s,fBin_lss,fCond_b]
  rw [if_neg (by simp;omega),ref08_World.L3_eq,ref08_World.L2_eq]
  rfl
 | cons m t ih =>
  intro j h v now hd ho hn hl
  obtain ⟨k,s⟩:=m
  obtain ⟨hj,hc,ht⟩:=drop_cons hd
  simp only [List.length_cons] at hl
  have ek : IntKind.i64.wrap ((j : Int) + 1) = ((j + 1 : Nat) : Int):=wrap64 (by omega) (by omega)
  have hb:=ho
  simp only [okA,Bool.and_eq_true,decide_eq_true_eq] at hb
  have w1 : IntKind.i64.wrap (v + 1) = v + 1:=wrap64 (by omega) (by omega)
  have n1:=neg64 (n:=v + 1) (by omega) (by omega)
  have stop : ref08_World.L3 (.int .i64 h) (.int .i64 v) (.int .i64 (j : Int)) (.int .i64 0) x5 r6 (now.map cellF) = some (.tup [.int .i64 h,.int .i64 v,.arr (now.map cellF),.int .i64 (j : Int),.int .i64 0]):=by
   rw [ref08_World.L3_eq,ref08_World.L2_eq]
  obtain ⟨a,b,ha,hab⟩:=after_e h v k s
  rw [ref08_World.L4_eq,hx.len]
  simp only [List.length_map,bindO_s,fBin_lss,fCond_b]
  rw [if_pos (by simp;omega),hx.idx j (mvF (k,s)) (by rw [List.getElem?_map,hc];rfl)]
  simp only [mvF,bindO_s,List.getElem?_cons_zero,List.getElem?_cons_succ,agg_zero,fCond_b,fBin_add,ek,w1,n1,ha,fIsTup_tup,List.length_cons,List.length_nil,fTup_zero,fTup_succ,fBin_neq,Nat.zero_add,Nat.reduceAdd,beq_self_eq_true,gB_t,stop,fBin_eql]
  have ej : ((j : Int) + 1) = ((j + 1 : Nat) : Int):=by omega
  simp only [goD]
  cases hz : decide (k = 0) && decide (s = 0) with
  | true =>
   rw [if_pos rfl,ih (j + 1) h v now ht ho hn (by omega),ej]
  | false =>
   rw [if_neg (by simp)]
   unfold stopD
   by_cases he : errA h v k s = 0
   ·obtain ⟨e1,e2,e3,e4,e5,e6⟩:=err_kinds he
    obtain ⟨rfl,rfl⟩:=hab he
    rw [if_neg (by simpa using he),blocked_d now (by omega) s e5 (by omega) (by omega)]
    simp only [bindO_s,fCond_b,at_d now (by omega),fBin_neq,show ∀ n : Int,fScal (.int .i64 n) = true from fun _ => rfl,show ∀ b : Bool,fScal (.bool b) = true from fun _ => rfl,gB_t,world_step j (by omega) he hn (by omega)]
    obtain ⟨f1,f2⟩:=next_fit hn he
    have step:=ih (j + 1) (toH h k) (toV v k) (nextD now h v k s) ht e4 f1 (by omega)
    rw [step,decide_eq_true he]
    cases hbl : blkD now h v k with
    | true => simp
    | false =>
     by_cases h8 : k = 8
     ·by_cases hat : atI now h (-(v + 1)) = s
      ·simp [h8,hat]
      ·simp [h8,hat]
     ·simp [h8]
   ·rw [if_pos (by simpa using he),decide_eq_false he]
    rfl
theorem quiet_all (cs : List Cel) (hl : cs.length ≤ 100000) {x0 x1 : FV} (hx : RowsX 3 x1 (cs.map cellF)) (x3 : FV) (r4 : List (List FV)) : ∀ (t : List Cel) (i : Nat),cs.drop i = t →
  ref08_World.L0 x0 x1 (.int .i64 (i : Int)) x3 r4 = (match t.all fun c => quietC c.2.2 with | false => some (.tup [.int .i64 0,.int .i64 0,.nilS,.int .i64 0,.int .i64 82]) | true => ref08_World.L1 x0 x1 (.int .i64 0) x3 r4):=by
 intro t
 induction t with
 | nil =>
  intro i hd
  have hk:=drop_nil hd
  rw [ref08_World.L0_eq,hx.len]
  simp only [List.length_map,bindO_s,fBin_lss,fCond_b]
  rw [if_neg (by simp;omega)];rfl
 | cons c t ih =>
  intro i hd
  obtain ⟨hi,hc,ht⟩:=drop_cons hd
  have ek : IntKind.i64.wrap ((i : Int) + 1) = ((i + 1 : Nat) : Int):=wrap64 (by omega) (by omega)
  rw [ref08_World.L0_eq,hx.len]
  simp only [List.length_map,bindO_s,fBin_lss,fCond_b]
  rw [if_pos (by simp;omega),hx.idx i (cellF c) (by rw [List.getElem?_map,hc];rfl)]
  simp only [cellF,bindO_s,List.getElem?_cons_zero,List.getElem?_cons_succ,nine_d,fUn_not,fCond_b,fBin_add,ek,ih (i + 1) ht,List.all_cons]
  cases quietC c.2.2 <;> simp
theorem span_all (cs : List Cel) (hl : cs.length ≤ 10000) {x0 x1 : FV} (hx : RowsX 3 x1 (cs.map cellF)) (x3 : FV) : ∀ (t : List Cel) (i : Nat),cs.drop i = t →
  ref08_World.L1 x0 x1 (.int .i64 (i : Int)) x3 [] = (match t.all fun c => !(decide (c.2.1 = 0) || (decide (c.2.1 = 1) || decide (c.1 < 2))) with | false => some (.tup [.int .i64 0,.int .i64 0,.nilS,.int .i64 0,.int .i64 81]) | true => ref08_World.L4 x0 (.int .i64 2) (.int .i64 (-1)) (.int .i64 0) x3 (.arr []) [] (cs.map cellF)):=by
 intro t
 induction t with
 | nil =>
  intro i hd
  have hk:=drop_nil hd
  rw [ref08_World.L1_eq,hx.len]
  simp only [List.length_map,bindO_s,fBin_lss,fCond_b]
  rw [if_neg (by simp;omega),hx.rows,bindO_s,rows3,gB_t,List.length_map,roomC (by omega),gB_t]
  rfl
 | cons c t ih =>
  intro i hd
  obtain ⟨hi,hc,ht⟩:=drop_cons hd
  have ek : IntKind.i64.wrap ((i : Int) + 1) = ((i + 1 : Nat) : Int):=wrap64 (by omega) (by omega)
  rw [ref08_World.L1_eq,hx.len]
  simp only [List.length_map,bindO_s,fBin_lss,fCond_b]
  rw [if_pos (by simp;omega),hx.idx i (cellF c) (by rw [List.getElem?_map,hc];rfl)]
  simp only [cellF,bindO_s,List.getElem?_cons_zero,List.getElem?_cons_succ,fBin_eql,fBin_lss,fCond_b,fBin_add,ek,ih (i + 1) ht,List.all_cons]
  by_cases h1 : c.2.1 = 0
  ·simp [h1]
  ·by_cases h2 : c.2.1 = 1
   ·simp [h2]
   ·by_cases h3 : c.1 < 2
    ·simp [h1,h2,h3]
    ·simp [h1,h2,h3]
theorem proper_x (cs : List Cel) (hl : cs.length ≤ 100000) {x1 : FV} (hx : x1 = .arr (cs.map cellF) ∨ (x1 = .nilS ∧ cs = [])) (x : FV) : ref01_Proper (.agg [.int .i64 0,x]) x1 = some (.int .i64 (properC cs)):=by
 rcases hx with rfl | ⟨rfl,rfl⟩
 ·exact proper_d cs x (by omega)
 ·rw [ref01_Proper.eq,ref01_proper.eq]
  simp only [fIsAgg_agg,List.length_cons,List.length_nil,fCell_zero,fCell_succ,check_d,bindO_s,fBin_neq,fCond_b]
  rw [ref01_proper.L0_eq]
  simp [properC,lookC]
def worldD (ms : List Mv) (cs : List Cel) : FV:=match decide (siteE cs = 0) with
 | false => .tup [.int .i64 0,.int .i64 0,.nilS,.int .i64 0,.int .i64 (siteE cs)]
 | true => .tup [.int .i64 (goD ms 2 (-1) cs 0).1,.int .i64 (goD ms 2 (-1) cs 0).2.1,.arr ((goD ms 2 (-1) cs 0).2.2.1.map cellF),.int .i64 (goD ms 2 (-1) cs 0).2.2.2,.int .i64 0]
theorem world_d {x0 x1 : FV} {ms : List Mv} {cs : List Cel} (hx0 : RowsX 2 x0 (ms.map mvF)) (hx1 : x1 = .arr (cs.map cellF) ∨ (x1 = .nilS ∧ cs = [])) (hm : ms.length ≤ 1000) (hc : cs.length ≤ 1000) : ref08_World x0 x1 = some (worldD ms cs):=by
 have hr : RowsX 3 x1 (cs.map cellF):=by
  rcases hx1 with rfl | ⟨rfl,rfl⟩
  ·exact rowsX_arr fun c hc => by obtain ⟨d,_,rfl⟩:=List.mem_map.1 hc;rfl
  ·exact rowsX_nil 3
 have q:=quiet_all cs (by omega) hr (x0:=x0) (.int .i64 0) [] cs 0 rfl
 have s:=span_all cs (by omega) hr (x0:=x0) (.int .i64 0) cs 0 rfl
 rw [show ((0 : Nat) : Int) = 0 from rfl] at q s
 rw [ref08_World.eq,proper_x cs (by omega) hx1]
 simp only [bindO_s,fBin_neq,fCond_b,q,s]
 unfold worldD siteE
 by_cases hp : properC cs = 0
 ·rw [if_neg (by simpa using hp)]
  simp only [decide_eq_true hp]
  cases hq : cs.all fun c => quietC c.2.2 with
  | false => rfl
  | true =>
   cases hs : cs.all fun c => !(decide (c.2.1 = 0) || (decide (c.2.1 = 1) || decide (c.1 < 2))) with
   | false => rfl
   | true =>
    have:=world_l4 ms hx0 hm (.arr []) [] ms 0 2 (-1) cs rfl (by decide) (proper_fit hp).1 (by omega)
    rw [show ((0 : Nat) : Int) = 0 from rfl] at this
    simp only [this]
    rfl
 ·rw [if_pos (by simpa using hp)]
  simp only [decide_eq_false hp]
theorem mvsF_map : ∀ ms : List Mv,mvsF (ms.map mvF) = some ms
 | [] => rfl
 | m :: l => by simp [mvsF,mvOf,mvF,mvsF_map l]
theorem world_p {x0 x1 : FV} {ms : List Mv} {cs : List Cel} (hx0 : RowsX 2 x0 (ms.map mvF)) (hx1 : RowsX 3 x1 (cs.map cellF)) (hm : ms.length ≤ 1000) (hc : cs.length ≤ 1000) : arm_World x0 x1 = some (worldA ms cs):=by
 have e : arm_World x0 x1 = worldOv [x0,x1]:=(den_eq E 26 _).trans (by kernel_rfl)
 rw [e]
 simp only [worldOv,hx0.rows,hx1.rows,bindO_s,celsF_cells,mvsF_map]
 rw [decide_eq_true (show ms.length ≤ 100000 ∧ cs.length ≤ 100000 by omega),gB_t]
theorem go_len : ∀ (ms : List Mv) {L : List Cel} (h v n : Int),(goD ms h v L n).2.2.1.length ≤ L.length + ms.length
 | [],_,h,v,n => by simp [goD]
 | m :: l,L,h,v,n => by
  simp only [goD]
  cases decide (m.1 = 0) && decide (m.2 = 0) with
  | true => have:=go_len l (L:=L) h v (n + 1);simp only [List.length_cons];omega
  | false =>
   cases stopD L h v m.1 m.2 with
   | true => simp only [List.length_cons];omega
   | false =>
    have h1:=go_len l (L:=nextD L h v m.1 m.2) (toH h m.1) (toV v m.1) (n + 1)
    have h2 : (nextD L h v m.1 m.2).length ≤ L.length + 1:=by
     unfold nextD
     split
     ·have:=canonC_len (L ++ [(h,-(v + 1),m.2)]);simpa using this
     ·split
      ·have:=canonC_len (L ++ [(h,-(v + 1),0)]);simpa using this
      ·omega
    simp only [List.length_cons];omega
theorem armWorld_law {x0 x1 : FV} {ms : List Mv} {cs : List Cel} (hx0 : RowsX 2 x0 (ms.map mvF)) (hx1 : x1 = .arr (cs.map cellF) ∨ (x1 = .nilS ∧ cs = [])) : law08_ArmWorld x0 x1 = some (.bool true):=by
 have hr : RowsX 3 x1 (cs.map cellF):=by
  rcases hx1 with rfl | ⟨rfl,rfl⟩
  ·exact rowsX_arr fun c hc => by obtain ⟨d,_,rfl⟩:=List.mem_map.1 hc;rfl
  ·exact rowsX_nil 3
 rw [law08_ArmWorld.eq,hx0.len,hr.len]
 simp only [List.length_map,bindO_s,fBin_gtr,fCond_b,ready_true]
 by_cases h1 : (60 : Int) < (ms.length : Int)
 ·rw [if_pos (decide_eq_true h1)]
 ·rw [if_neg (by simpa using h1)]
  by_cases h2 : (200 : Int) < (cs.length : Int)
  ·rw [if_pos (decide_eq_true h2)]
  ·rw [if_neg (by simpa using h2),law08_ArmWorld.L0_eq,world_d hx0 hx1 (by omega) (by omega),world_p hx0 hr (by omega) (by omega)]
   unfold worldD worldA
   by_cases hs : siteE cs = 0
   ·have hl:=go_len ms (L:=cs) 2 (-1) 0
    rw [world_same ms hs (by omega),decide_eq_true hs]
    simp only [bindO_s,fIsTup_tup,List.length_cons,List.length_nil,fTup_zero,fTup_succ,fBin_eql,fCond_b,same_out _ (show (goD ms 2 (-1) cs 0).2.2.1.length ≤ 1000000 by omega),ready_true]
    simp
   ·have e : worldR ms cs = (0,0,[],0,siteE cs):=by unfold worldR;rw [decide_eq_false hs]
    have nil2 : law08_same .nilS .nilS = some (.bool true):=by rw [law08_same.eq,law08_same.L0_eq];simp
    rw [e,decide_eq_false hs]
    simp only [bindO_s,fIsTup_tup,List.length_cons,List.length_nil,fTup_zero,fTup_succ,fBin_eql,fCond_b,outC,nil2,ready_true]
    simp
abbrev TM2 : TC:=.cons (.int .i64) (.cons (.int .i64) .nil)
def toM : List (Val TM2) → List Mv
 | [] => []
 | v :: l => (v.1,v.2.1) :: toM l
theorem toM_cells : ∀ l : List (Val TM2),l.map (cells TM2) = (toM l).map mvF
 | [] => rfl
 | v :: l => by
  show cells TM2 v :: l.map (cells TM2) = mvF (v.1,v.2.1) :: (toM l).map mvF
  rw [toM_cells l]
  rfl
abbrev TC3 : TC:=.cons (.int .i64) (.cons (.int .i64) (.cons (.int .i64) .nil))
def toCw : List (Val TC3) → List Cel
 | [] => []
 | v :: l => (v.1,v.2.1,v.2.2.1) :: toCw l
theorem toCw_cells : ∀ l : List (Val TC3),l.map (cells TC3) = (toCw l).map cellF
 | [] => rfl
 | v :: l => by
  show cells TC3 v :: l.map (cells TC3) = cellF (v.1,v.2.1,v.2.2.1) :: (toCw l).map cellF
  rw [toCw_cells l]
  rfl
theorem armWorld_pure (x : Vals tcsArmWorld) (h : wfs tcsArmWorld x) : den E 9 (argsF tcsArmWorld x) = some (.bool true):=by
 obtain ⟨o,p,u⟩:=x
 have k0 : ∀ o : Option (List (Val TM2)),∃ (y : FV) (ms : List Mv),(match o with | none => FV.nilS | some l => .arr (l.map (cells TM2))) = y ∧ RowsX 2 y (ms.map mvF):=fun o => by
  cases o with
  | none => exact ⟨.nilS,[],rfl,rowsX_nil 2⟩
  | some l =>
   refine ⟨_,toM l,rfl,?_⟩
   show RowsX 2 (.arr (l.map (cells TM2))) ((toM l).map mvF)
   rw [toM_cells]
   exact rowsX_arr fun c hc => by obtain ⟨d,_,rfl⟩:=List.mem_map.1 hc;rfl
 have k1 : ∀ p : Option (List (Val TC3)),∃ (y : FV) (cs : List Cel),(match p with | none => FV.nilS | some l => .arr (l.map (cells TC3))) = y ∧ (y = .arr (cs.map cellF) ∨ (y = .nilS ∧ cs = [])):=fun p => by
  cases p with
  | none => exact ⟨.nilS,[],rfl,.inr ⟨rfl,rfl⟩⟩
  | some l =>
   refine ⟨_,toCw l,rfl,.inl ?_⟩
   show FV.arr (l.map (cells TC3)) = .arr ((toCw l).map cellF)
   rw [toCw_cells]
 obtain ⟨y0,ms,e0,h0⟩:=k0 o
 obtain ⟨y1,cs,e1,h1⟩:=k1 p
 have e : argsF tcsArmWorld (o,p,u) = [y0,y1]:=by
  rw [← e0,← e1]
  cases o <;> cases p <;> rfl
 rw [e]
 exact armWorld_law h0 h1
end Go.Proofs.YtpffkpaiihcffaaGreatDoor
end
