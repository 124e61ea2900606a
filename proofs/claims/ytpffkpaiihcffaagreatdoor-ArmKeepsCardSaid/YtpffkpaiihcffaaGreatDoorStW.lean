/- Steps of the proof: The codes of the types of the law ArmStands's parameters; The document's Canon (rametref01), the law's comparison of lists; The document's Canon; the law's comparison; both arms; Both arms, both After, the law ArmStands; Both After; the law ArmStands; The law ArmStands; The codes of the types of the law ArmMoves's parameters; The program's Moves over a field's columns; The program's Wipe over a field's columns; its Moves and Wipe over lists of cells; The document's Proper, field, last, top, At; The document's Moves; The document's Wipe; the law ArmMoves; How long the lists of moves are; The law ArmTrains; The codes of the types of the law ArmKeeps's parameters; The law ArmKeeps. -/
import Derived.Test.YtpffkpaiihcffaaGreatDoorEnv
import Derived.Test.YtpffkpaiihcffaaGreatDoorRow
import Derived.Test.YtpffkpaiihcffaaGreatDoorCode0
import Derived.Test.YtpffkpaiihcffaaGreatDoorKit
import Derived.Test.YtpffkpaiihcffaaGreatDoorCel
import Derived.Test.YtpffkpaiihcffaaGreatDoorOvk
set_option linter.unusedVariables false
set_option linter.unusedSimpArgs false
section
namespace Go.Proofs.YtpffkpaiihcffaaGreatDoor
open Go Go.Proofs.YtpffkpaiihcffaaGreatDoor.VM
end Go.Proofs.YtpffkpaiihcffaaGreatDoor
end
section
namespace Go.Proofs.YtpffkpaiihcffaaGreatDoor
open Go Go.Proofs Go.Proofs.YtpffkpaiihcffaaGreatDoor.VM Go.RowKit
def stB (x y : Int) : Bool:=decide (2 ≤ x) && (decide (x ≤ 60) && (decide (-1 ≤ y) && decide (y ≤ 60)))
theorem stands_d (x y : Int) : ref08_stands (.int .i64 x) (.int .i64 y) = some (.bool (stB x y)):=by
 rw [ref08_stands.eq]
 simp only [fBin_geq,fBin_leq,bindO_s,fCond_b,stB]
 by_cases h1 : 2 ≤ x <;> by_cases h2 : x ≤ 60 <;> by_cases h3 : -1 ≤ y <;> simp [h1,h2,h3]
theorem stands_p (x y : Int) : arm_stands (.int .i64 x) (.int .i64 y) = some (.bool (stB x y)):=by
 rw [arm_stands.eq]
 simp only [fBin_geq,fBin_leq,bindO_s,fCond_b,stB]
 by_cases h1 : 2 ≤ x <;> by_cases h2 : x ≤ 60 <;> by_cases h3 : -1 ≤ y <;> simp [h1,h2,h3]
theorem near_d (c : Cel) : ref01_near (.int .i64 c.1) (.int .i64 c.2.1) = some (.bool (!farC c)):=by
 rw [ref01_near.eq]
 simp only [fBin_geq,fBin_leq,bindO_s,fCond_b,farC]
 by_cases h1 : -1073741824 ≤ c.1 <;> by_cases h2 : c.1 ≤ 1073741824 <;> by_cases h3 : -1073741824 ≤ c.2.1 <;> by_cases h4 : c.2.1 ≤ 1073741824 <;> simp [h1,h2,h3,h4] <;> omega
theorem check_d (x : FV) : ref01_Check (.agg [.int .i64 0,x]) = some (.int .i64 0):=by
 rw [ref01_Check.eq]
 simp [ref01_Check.L0_eq]
theorem states_d (x : FV) : ref01_States (.agg [.int .i64 0,x]) = some (.int .i64 29):=by
 rw [ref01_States.eq]
 simp [check_d]
theorem isState_d (x : FV) (s : Int) : ref01_isState (.agg [.int .i64 0,x]) (.int .i64 s) = some (.bool (stateC s)):=by
 rw [ref01_isState.eq]
 simp only [fIsAgg_agg,List.length_cons,List.length_nil,fCell_zero,fCell_succ,fBin_eql,fBin_geq,bindO_s,fCond_b,states_d,fBin_lss,stateC]
 by_cases h : 0 ≤ s <;> simp [h]
theorem behind_d (a b : Cel) : ref01_behind (.agg (cellF a)) (.agg (cellF b)) = some (.bool (befC b a)):=by
 rw [ref01_behind.eq]
 simp only [cellF,fIsAgg_agg,List.length_cons,List.length_nil,fCell_zero,fCell_succ,fBin_gtr,fBin_eql,bindO_s,fCond_b,befC]
 by_cases h1 : b.2.1 < a.2.1
 ·simp [h1]
 ·by_cases h2 : b.2.1 = a.2.1
  ·simp [h1,h2]
  ·simp [h1,h2,Ne.symm h2]
theorem cellF_len' (c : Cel) : (cellF c).length = 3:=rfl
theorem rows3 (l : List Cel) : rowsSz 3 (l.map cellF) = true:=rowsSz_map cellF_len' l
theorem idxC {l : List Cel} {k : Nat} {c : Cel} (h : l[k]? = some c) : fIdxC 3 (.arr (l.map cellF)) (.int .i64 (k : Int)) = some (cellF c):=idx_arr (by rw [List.getElem?_map,h];rfl) rfl
theorem roomC {n : Nat} (h : n ≤ 1000000) : decide (n * 24 ≤ room) = true:=decide_eq_true (by unfold room;omega)
theorem merge_l0 (a b : List Cel) (ha : a.length + b.length ≤ 1000000) : ∀ (n i j : Nat) (acc : List Cel),(a.length - i) + (b.length - j) = n → acc.length + n ≤ 1000000 → i ≤ a.length → j ≤ b.length →
  ref01_sorted.L0 (.arr (a.map cellF)) (.arr (b.map cellF)) (.int .i64 (i : Int)) (.int .i64 (j : Int)) (acc.map cellF) = some (.arr ((acc ++ mergeC (a.drop i) (b.drop j)).map cellF)):=by
 intro n
 induction n with
 | zero =>
  intro i j acc hn hacc hi hj
  rw [ref01_sorted.L0_eq]
  simp only [fLen_arr,List.length_map,bindO_s,fBin_lss,fCond_b]
  rw [if_neg (by simp;omega),if_neg (by simp;omega),List.drop_of_length_le (by omega),List.drop_of_length_le (by omega)]
  simp [mergeC]
 | succ n ih =>
  intro i j acc hn hacc hi hj
  have e1 : ∀ c : Cel,acc.map cellF ++ [[FV.int .i64 c.1,.int .i64 c.2.1,.int .i64 c.2.2]] = (acc ++ [c]).map cellF:=fun c => by simp [cellF]
  have ei : IntKind.i64.wrap ((i : Int) + 1) = ((i + 1 : Nat) : Int):=wrap64 (by omega) (by omega)
  have ej : IntKind.i64.wrap ((j : Int) + 1) = ((j + 1 : Nat) : Int):=wrap64 (by omega) (by omega)
  have hroom : decide ((acc.length + 1) * 24 ≤ room) = true:=roomC (by omega)
  have go1 : ref01_sorted.L0 (.arr (a.map cellF)) (.arr (b.map cellF)) (.int .i64 (i : Int)) (.int .i64 (j : Int)) (acc.map cellF) = ref01_sorted.L1 (.arr (a.map cellF)) (.arr (b.map cellF)) (.int .i64 (i : Int)) (.int .i64 (j : Int)) (acc.map cellF):=by
   rw [ref01_sorted.L0_eq]
   simp only [fLen_arr,List.length_map,bindO_s,fBin_lss,fCond_b]
   by_cases h1 : i < a.length
   ·rw [if_pos (by simp;omega)]
   ·rw [if_neg (by simp;omega),if_pos (by simp;omega)]
  rw [go1,ref01_sorted.L1_eq]
  simp only [fLen_arr,List.length_map,bindO_s,fBin_lss,fBin_eql,fCond_b]
  by_cases h2 : j = b.length
  ·obtain ⟨x,hx⟩ : ∃ x,a[i]? = some x:=⟨_,List.getElem?_eq_getElem (by omega)⟩
   rw [if_pos (by simp;omega),idxC hx]
   simp only [bindO_s,cellF,List.getElem?_cons_zero,List.getElem?_cons_succ]
   rw [hroom,gB_t,fBin_add,bindO_s,ei,e1 x]
   rw [ih (i + 1) j (acc ++ [x]) (by omega) (by simp;omega) (by omega) hj]
   rw [List.drop_eq_getElem_cons (show i < a.length by omega),List.drop_of_length_le (l:=b) (by omega)]
   have hxx : a[i] = x:=by rw [List.getElem?_eq_getElem (by omega)] at hx;exact Option.some.inj hx
   rw [hxx,mergeC_nil,mergeC_nil]
   simp
  ·obtain ⟨y,hy⟩ : ∃ y,b[j]? = some y:=⟨_,List.getElem?_eq_getElem (by omega)⟩
   have hyy : b[j]'(by omega) = y:=by rw [List.getElem?_eq_getElem (by omega)] at hy;exact Option.some.inj hy
   rw [if_neg (by simp;omega)]
   by_cases h3 : i < a.length
   ·obtain ⟨x,hx⟩ : ∃ x,a[i]? = some x:=⟨_,List.getElem?_eq_getElem h3⟩
    have hxx : a[i] = x:=by rw [List.getElem?_eq_getElem (by omega)] at hx;exact Option.some.inj hx
    have hb:=behind_d x y
    rw [if_pos (by simp;omega),idxC hx,idxC hy]
    simp only [bindO_s,cellF,List.getElem?_cons_zero,List.getElem?_cons_succ]
    simp only [cellF] at hb
    rw [hb]
    simp only [bindO_s,fUn_not,fCond_b]
    cases hbf : befC y x with
    | true =>
     rw [if_neg (by simp),hroom,gB_t,fBin_add,bindO_s,ej,e1 y]
     rw [ih i (j + 1) (acc ++ [y]) (by omega) (by simp;omega) hi (by omega)]
     rw [List.drop_eq_getElem_cons h3,List.drop_eq_getElem_cons (show j < b.length by omega),hxx,hyy]
     simp [mergeC,hbf]
    | false =>
     rw [if_pos (by simp),hroom,gB_t,fBin_add,bindO_s,ei,e1 x]
     rw [ih (i + 1) j (acc ++ [x]) (by omega) (by simp;omega) (by omega) hj]
     rw [List.drop_eq_getElem_cons h3,List.drop_eq_getElem_cons (show j < b.length by omega),hxx,hyy]
     simp [mergeC,hbf]
   ·rw [if_neg (by simp;omega),idxC hy]
    simp only [bindO_s,cellF,List.getElem?_cons_zero,List.getElem?_cons_succ]
    rw [hroom,gB_t,fBin_add,bindO_s,ej,e1 y]
    rw [ih i (j + 1) (acc ++ [y]) (by omega) (by simp;omega) hi (by omega)]
    rw [List.drop_of_length_le (l:=a) (by omega),List.drop_eq_getElem_cons (show j < b.length by omega),hyy]
    simp [mergeC]
theorem sorted_d : ∀ (n : Nat) (l : List Cel),l.length ≤ n → l.length ≤ 1000000 → ∃ s,Srt l s ∧ ref01_sorted (.arr (l.map cellF)) = some (.arr (s.map cellF)):=by
 intro n
 induction n with
 | zero =>
  intro l h _
  obtain rfl : l = []:=List.length_eq_zero_iff.1 (by omega)
  refine ⟨[],Srt.small (by simp),?_⟩
  rw [ref01_sorted.eq]
  simp [room]
 | succ n ih =>
  intro l h hn
  rw [ref01_sorted.eq]
  simp only [fLen_arr,List.length_map,bindO_s,fBin_lss,fCond_b]
  by_cases h2 : l.length < 2
  ·refine ⟨l,Srt.small h2,?_⟩
   rw [if_pos (by simp;omega)]
   simp only [asRows_arr,bindO_s,rows3,gB_t,List.length_map,Nat.zero_add]
   rw [roomC hn]
   simp
  ·rw [if_neg (by simp;omega)]
   have eq2 : fBin .quo (.int .i64 (l.length : Int)) (.int .i64 2) = some (.int .i64 ((l.length / 2 : Nat) : Int)):=by
    rw [fBin_quo,if_neg (by decide)]
    congr 2
    rw [show ((l.length : Int)).tdiv 2 = ((l.length / 2 : Nat) : Int) from rfl]
    exact wrap64 (by omega) (by omega)
   rw [eq2]
   simp only [bindO_s]
   rw [fCut_take (rows3 l) (by rw [List.length_map];omega),fCut_drop (rows3 l) (by rw [List.length_map];omega)]
   simp only [bindO_s]
   rw [← List.map_take,← List.map_drop]
   obtain ⟨s,hs,e1⟩:=ih (l.take (l.length / 2)) (by simp;omega) (by simp;omega)
   obtain ⟨t,ht,e2⟩:=ih (l.drop (l.length / 2)) (by simp;omega) (by simp;omega)
   rw [e1,e2]
   simp only [bindO_s]
   have hl1:=hs.len
   have hl2:=ht.len
   simp only [List.length_take,List.length_drop] at hl1 hl2
   refine ⟨mergeC s t,by have:=hs.merge ht;rwa [List.take_append_drop] at this,?_⟩
   have:=merge_l0 s t (by omega) (s.length + t.length) 0 0 [] (by omega) (by simp;omega) (by omega) (by omega)
   simpa using this
end Go.Proofs.YtpffkpaiihcffaaGreatDoor
end
section
namespace Go.Proofs.YtpffkpaiihcffaaGreatDoor
open Go Go.Proofs Go.Proofs.YtpffkpaiihcffaaGreatDoor.VM Go.RowKit
theorem canon_l1 (s : List Cel) (hs : s.length ≤ 1000000) (x0 x : FV) : ∀ (n k : Nat) (acc : List Cel),s.length - k = n → acc.length + n ≤ 1000000 → k ≤ s.length →
  ref01_Canon.L1 (.arr (s.map cellF)) (.int .i64 (k : Int)) x0 x (acc.map cellF) =
   (match decide ((acc ++ lastsW (s.drop k)).length ≤ 65536) with | true => some (.tup [.arr ((acc ++ lastsW (s.drop k)).map cellF),.int .i64 0]) | false => some (.tup [.arr [],.int .i64 14])):=by
 intro n
 induction n with
 | zero =>
  intro k acc hn hacc hk
  rw [ref01_Canon.L1_eq]
  simp only [fLen_arr,List.length_map,bindO_s,fBin_lss,fCond_b,fBin_gtr]
  rw [if_neg (by simp;omega),List.drop_of_length_le (by omega)]
  simp only [lastsW,List.append_nil]
  by_cases h : acc.length ≤ 65536
  ·rw [if_neg (by simp;omega)];simp [h]
  ·rw [if_pos (by simp;omega)];simp [h]
 | succ n ih =>
  intro k acc hn hacc hk
  obtain ⟨c,hc⟩ : ∃ c,s[k]? = some c:=⟨_,List.getElem?_eq_getElem (by omega)⟩
  have hcc : s[k]'(by omega) = c:=by rw [List.getElem?_eq_getElem (by omega)] at hc;exact Option.some.inj hc
  have e1 : ∀ c : Cel,acc.map cellF ++ [[FV.int .i64 c.1,.int .i64 c.2.1,.int .i64 c.2.2]] = (acc ++ [c]).map cellF:=fun c => by simp [cellF]
  have ek : IntKind.i64.wrap ((k : Int) + 1) = ((k + 1 : Nat) : Int):=wrap64 (by omega) (by omega)
  have hroom : decide ((acc.length + 1) * 24 ≤ room) = true:=roomC (by omega)
  have hd : s.drop k = c :: s.drop (k + 1):=by rw [List.drop_eq_getElem_cons (by omega),hcc]
  have ih0:=ih (k + 1) acc (by omega) (by omega) (by omega)
  have ih1:=ih (k + 1) (acc ++ [c]) (by omega) (by simp;omega) (by omega)
  rw [ref01_Canon.L1_eq]
  simp only [fLen_arr,List.length_map,bindO_s,fBin_lss,fBin_add,fBin_eql,fCond_b,ek]
  rw [if_pos (by simp;omega),idxC hc]
  simp only [bindO_s,cellF,List.getElem?_cons_zero,List.getElem?_cons_succ,fBin_neq,fCond_b]
  have e1c:=e1 c
  rw [hroom]
  simp only [gB_t,e1c]
  by_cases hl : k + 1 = s.length
  ·rw [if_pos (by simp;omega)]
   have hdd : s.drop (k + 1) = []:=List.drop_of_length_le (by omega)
   have hlw : lastsW (s.drop k) = (match nzC c with | true => [c] | false => []):=by rw [hd,hdd];rfl
   rw [hlw]
   rw [hdd] at ih0 ih1
   simp only [lastsW,List.append_nil] at ih0 ih1
   by_cases hz : c.2.2 = 0
   ·rw [if_neg (by simp [hz]),ih0]
    have hnz : nzC c = false:=by simp [nzC,hz]
    simp [hnz]
   ·rw [if_pos (by simp [hz]),ih1]
    have hnz : nzC c = true:=by simp [nzC,hz]
    simp [hnz]
  ·obtain ⟨d,hdx⟩ : ∃ d,s[k + 1]? = some d:=⟨_,List.getElem?_eq_getElem (by omega)⟩
   have hddd : s[k + 1]'(by omega) = d:=by rw [List.getElem?_eq_getElem (by omega)] at hdx;exact Option.some.inj hdx
   have hd2 : s.drop (k + 1) = d :: s.drop (k + 2):=by rw [List.drop_eq_getElem_cons (by omega),hddd]
   rw [if_neg (by simp;omega),idxC hdx]
   simp only [bindO_s,cellF,List.getElem?_cons_zero,List.getElem?_cons_succ,fBin_neq,fCond_b]
   have hlw : lastsW (s.drop k) = (match smC d c with | true => lastsW (s.drop (k + 1)) | false => (match nzC c with | true => c :: lastsW (s.drop (k + 1)) | false => lastsW (s.drop (k + 1)))):=by rw [hd,hd2];rfl
   have hout : smC d c = false → (if decide (c.2.2 ≠ 0) = true then ref01_Canon.L1 (.arr (s.map cellF)) (.int .i64 ((k + 1 : Nat) : Int)) x0 x ((acc ++ [c]).map cellF) else ref01_Canon.L1 (.arr (s.map cellF)) (.int .i64 ((k + 1 : Nat) : Int)) x0 x (acc.map cellF)) =
     (match decide ((acc ++ lastsW (s.drop k)).length ≤ 65536) with | true => some (.tup [.arr ((acc ++ lastsW (s.drop k)).map cellF),.int .i64 0]) | false => some (.tup [.arr [],.int .i64 14])):=fun hsm => by
    rw [hlw,hsm]
    by_cases hz : c.2.2 = 0
    ·rw [if_neg (by simp [hz]),ih0]
     have hnz : nzC c = false:=by simp [nzC,hz]
     simp [hnz]
    ·rw [if_pos (by simp [hz]),ih1]
     have hnz : nzC c = true:=by simp [nzC,hz]
     simp [hnz]
   by_cases h0 : d.1 = c.1
   ·rw [if_neg (by simp [h0])]
    by_cases h1 : d.2.1 = c.2.1
    ·rw [if_neg (by simp [h1])]
     have hsm : smC d c = true:=by simp [smC,h0,h1]
     rw [hlw,hsm]
     exact ih0
    ·rw [if_pos (by simp [h1])]
     exact hout (by simp [smC,h1])
   ·rw [if_pos (by simp [h0])]
    exact hout (by simp [smC,h0])
theorem canon_l0 (l : List Cel) (hl : l.length ≤ 1000000) (x : FV) : ∀ (s : List Cel) (k : Nat),l.drop k = s →
  ref01_Canon.L0 (.arr (l.map cellF)) (.int .i64 (k : Int)) (.int .i64 0) x =
   (match decide (errC s = 0) with | false => some (.tup [.arr [],.int .i64 (errC s)]) | true => (match decide ((canonC l).length ≤ 65536) with | true => some (.tup [.arr ((canonC l).map cellF),.int .i64 0]) | false => some (.tup [.arr [],.int .i64 14]))):=by
 intro s
 induction s with
 | nil =>
  intro k hd
  have hk:=drop_nil hd
  rw [ref01_Canon.L0_eq]
  simp only [fLen_arr,List.length_map,bindO_s,fBin_lss,fCond_b]
  rw [if_neg (by simp;omega)]
  obtain ⟨t,ht,e⟩:=sorted_d _ l (Nat.le_refl _) hl
  rw [e,bindO_s]
  have:=canon_l1 t (by rw [ht.len];exact hl) (.int .i64 0) x t.length 0 [] (by omega) (by simp;rw [ht.len];exact hl) (by omega)
  simp only [List.map_nil,List.nil_append,List.drop_zero,ht.canon] at this
  have this' : ref01_Canon.L1 (.arr (t.map cellF)) (.int .i64 0) (.int .i64 0) x [] = _:=this
  rw [this']
  rfl
 | cons c s ih =>
  intro k hd
  obtain ⟨hk,hc,hs⟩:=drop_cons hd
  have ek : IntKind.i64.wrap ((k : Int) + 1) = ((k + 1 : Nat) : Int):=wrap64 (by omega) (by omega)
  have ih':=ih (k + 1) hs
  rw [ref01_Canon.L0_eq]
  simp only [fLen_arr,List.length_map,bindO_s,fBin_lss,fCond_b]
  rw [if_pos (by simp;omega),idxC hc]
  simp only [bindO_s,cellF,List.getElem?_cons_zero,List.getElem?_cons_succ,near_d,fUn_not,fCond_b,isState_d,fBin_add,ek]
  rw [ih']
  cases hf : farC c with
  | true => simp [errC,hf]
  | false =>
   cases hst : stateC c.2.2 with
   | false => simp [errC,hf,hst]
   | true => simp [errC,hf,hst]
def canonD (cs : List Cel) : FV:=match decide (errC cs = 0) with
 | false => .tup [.arr [],.int .i64 (errC cs)]
 | true => match decide ((canonC cs).length ≤ 65536) with
  | true => .tup [.arr ((canonC cs).map cellF),.int .i64 0]
  | false => .tup [.arr [],.int .i64 14]
theorem canon_d (l : List Cel) (hl : l.length ≤ 1000000) (x : FV) : ref01_Canon (.agg [.int .i64 0,x]) (.arr (l.map cellF)) = some (canonD l):=by
 rw [ref01_Canon.eq]
 simp only [fIsAgg_agg,List.length_cons,List.length_nil,fCell_zero,fCell_succ,check_d,bindO_s,fBin_neq,fCond_b]
 have h:=canon_l0 l hl x l 0 rfl
 rw [show ((0 : Nat) : Int) = 0 from rfl] at h
 rw [h]
 unfold canonD
 cases decide (errC l = 0) with
 | false => rfl
 | true => cases decide ((canonC l).length ≤ 65536) <;> rfl
theorem celsF_cells : ∀ l : List Cel,celsF (l.map cellF) = some l
 | [] => rfl
 | c :: l => by simp [celsF,celF,cellF,celsF_cells l]
theorem canon_p (l : List Cel) (hl : l.length ≤ 1000000) (x : FV) : cells_Canon (.agg [.int .i64 0,x]) (.arr (l.map cellF)) = some (canonD l):=by
 have e : cells_Canon (.agg [.int .i64 0,x]) (.arr (l.map cellF)) = canonOw [.agg [.int .i64 0,x],.arr (l.map cellF)]:=(den_eq E 35 _).trans (by kernel_rfl)
 rw [e]
 simp only [canonOw,canonOv,asRows_arr,bindO_s,celsF_cells,decide_eq_true hl,gB_t]
 unfold canonA canonD
 cases decide (errC l = 0) with
 | false => rfl
 | true =>
  cases decide ((canonC l).length ≤ 65536) with
  | false => rfl
  | true => simp only [rowsO_out]
theorem same_l0 (l : List Cel) (hl : l.length ≤ 1000000) : ∀ (s : List Cel) (k : Nat),l.drop k = s → law08_same.L0 (.arr (l.map cellF)) (.arr (l.map cellF)) (.int .i64 (k : Int)) = some (.bool true):=by
 intro s
 induction s with
 | nil =>
  intro k hd
  have hk:=drop_nil hd
  rw [law08_same.L0_eq]
  simp only [fLen_arr,List.length_map,bindO_s,fBin_lss,fCond_b]
  rw [if_neg (by simp;omega)]
 | cons c s ih =>
  intro k hd
  obtain ⟨hk,hc,hs⟩:=drop_cons hd
  have ek : IntKind.i64.wrap ((k : Int) + 1) = ((k + 1 : Nat) : Int):=wrap64 (by omega) (by omega)
  rw [law08_same.L0_eq]
  simp only [fLen_arr,List.length_map,bindO_s,fBin_lss,fCond_b]
  rw [if_pos (by simp;omega),idxC hc]
  simp only [bindO_s,cellF,List.getElem?_cons_zero,List.getElem?_cons_succ,fBin_add,ek]
  have hagg : fAggBin [.int,.int,.int] .neq [FV.int .i64 c.1,.int .i64 c.2.1,.int .i64 c.2.2] [FV.int .i64 c.1,.int .i64 c.2.1,.int .i64 c.2.2] = some (.bool false):=by simp [fAggBin,cellsEq,scalarEq]
  rw [hagg]
  simp only [bindO_s,fCond_b]
  rw [if_neg (by simp)]
  exact ih (k + 1) hs
end Go.Proofs.YtpffkpaiihcffaaGreatDoor
end
section
namespace Go.Proofs.YtpffkpaiihcffaaGreatDoor
open Go Go.Proofs Go.Proofs.YtpffkpaiihcffaaGreatDoor.VM Go.RowKit
theorem snocF (acc : List Cel) (a b s : Int) : acc.map cellF ++ [[FV.int .i64 a,.int .i64 b,.int .i64 s]] = (acc ++ [(a,b,s)]).map cellF:=by simp [cellF]
theorem snocF2 (acc : List Cel) (a b s a' b' s' : Int) : acc.map cellF ++ [[FV.int .i64 a,.int .i64 b,.int .i64 s],[FV.int .i64 a',.int .i64 b',.int .i64 s']] = (acc ++ [(a,b,s),(a',b',s')]).map cellF:=by simp [cellF]
theorem rowA_succ (k : Nat) : rowA (k + 1) = rowA k ++ [((k : Int),0,9)]:=by simp [rowA,List.range_succ]
theorem rowB_succ (k : Nat) : rowB (k + 1) = rowB k ++ [((k : Int),1,17)]:=by simp [rowB,List.range_succ]
theorem rowD_succ (k : Nat) : rowD (k + 1) = rowD k ++ [((k : Int),0,9),((k : Int),1,17)]:=by simp [rowD,List.range_succ]
theorem upD_succ (h : Int) (k : Nat) : upD h (k + 1) = upD h k ++ [(h + 1,-(k : Int),10),(h + 2,-(k : Int),18)]:=by simp [upD,List.range_succ]
def upT (h : Int) (V n : Nat) : List Cel:=(List.range n).flatMap fun (i : Nat) => (if (i : Int) - V ≤ 0 then [(h + 1,(i : Int) - V,10)] else []) ++ [(h + 2,(i : Int) - V,18)]
theorem upT_succ (h : Int) (V n : Nat) : upT h V (n + 1) = upT h V n ++ ((if (n : Int) - V ≤ 0 then [(h + 1,(n : Int) - V,10)] else []) ++ [(h + 2,(n : Int) - V,18)]):=by simp [upT,List.range_succ]
theorem rowA_len (n : Nat) : (rowA n).length = n:=by simp [rowA]
theorem rowB_len (n : Nat) : (rowB n).length = n:=by simp [rowB]
theorem rowD_len : ∀ n : Nat,(rowD n).length = 2 * n
 | 0 => rfl
 | n + 1 => by rw [rowD_succ,List.length_append,rowD_len n];simp;omega
theorem upD_len (h : Int) : ∀ n : Nat,(upD h n).length = 2 * n
 | 0 => rfl
 | n + 1 => by rw [upD_succ,List.length_append,upD_len h n];simp;omega
theorem upT_len (h : Int) (V : Nat) : ∀ n : Nat,(upT h V n).length ≤ 2 * n
 | 0 => by simp [upT]
 | n + 1 => by
  have:=upT_len h V n
  rw [upT_succ,List.length_append,List.length_append]
  split <;> simp <;> omega
theorem wires_l4 (N : Nat) (hN : N ≤ 100) (acc : List Cel) (ha : acc.length ≤ 10000) : ∀ (n k : Nat),k + n = N → arm_wires.L4 (.int .i64 ((N : Int) - 1)) (.int .i64 (k : Int)) ((acc ++ rowB k).map cellF) = some (.arr ((acc ++ rowB N).map cellF)):=by
 intro n
 induction n with
 | zero =>
  intro k hk
  obtain rfl : k = N:=by omega
  rw [arm_wires.L4_eq]
  simp only [fBin_leq,bindO_s,fCond_b]
  rw [if_neg (by simp;omega)]
 | succ n ih =>
  intro k hk
  have ek : IntKind.i64.wrap ((k : Int) + 1) = ((k + 1 : Nat) : Int):=wrap64 (by omega) (by omega)
  rw [arm_wires.L4_eq]
  simp only [fBin_leq,bindO_s,fCond_b,fBin_add,ek]
  rw [if_pos (by simp;omega),List.length_map,roomC (by simp only [List.length_append,rowB_len];omega),gB_t,snocF,List.append_assoc,← rowB_succ]
  exact ih (k + 1) (by omega)
theorem wires_l3 (h : Nat) (hh : h ≤ 100) (x1 : FV) (acc : List Cel) (ha : acc.length ≤ 10000) : ∀ (n k : Nat),k + n = h + 1 → arm_wires.L3 (.int .i64 (h : Int)) x1 (.int .i64 (k : Int)) ((acc ++ rowA k).map cellF) = arm_wires.L4 x1 (.int .i64 0) ((acc ++ rowA (h + 1)).map cellF):=by
 intro n
 induction n with
 | zero =>
  intro k hk
  obtain rfl : k = h + 1:=by omega
  rw [arm_wires.L3_eq]
  simp only [fBin_leq,bindO_s,fCond_b]
  rw [if_neg (by simp;omega)]
 | succ n ih =>
  intro k hk
  have ek : IntKind.i64.wrap ((k : Int) + 1) = ((k + 1 : Nat) : Int):=wrap64 (by omega) (by omega)
  rw [arm_wires.L3_eq]
  simp only [fBin_leq,bindO_s,fCond_b,fBin_add,ek]
  rw [if_pos (by simp;omega),List.length_map,roomC (by simp only [List.length_append,rowA_len];omega),gB_t,snocF,List.append_assoc,← rowA_succ]
  exact ih (k + 1) (by omega)
theorem wires_l0 (h N : Nat) (hh : h ≤ 60) (hN : N ≤ 100) (acc : List Cel) (ha : acc.length ≤ 9000) : arm_wires.L0 (.int .i64 (h : Int)) (.int .i64 ((N : Int) - 1)) (acc.map cellF) = some (.arr ((acc ++ (rowA (h + 1) ++ rowB N)).map cellF)):=by
 rw [arm_wires.L0_eq]
 have h1:=wires_l3 h (by omega) (.int .i64 ((N : Int) - 1)) acc (by omega) (h + 1) 0 (by omega)
 have h2:=wires_l4 N hN (acc ++ rowA (h + 1)) (by simp only [List.length_append,rowA_len];omega) N 0 (by omega)
 have z1 : rowA 0 = []:=rfl
 have z2 : rowB 0 = []:=rfl
 rw [z1,List.append_nil] at h1
 rw [z2,List.append_nil,List.append_assoc] at h2
 exact h1.trans h2
theorem wires_l1 (h V : Nat) (hh : h ≤ 60) (hV : V ≤ 60) (x1 : FV) : ∀ (n i : Nat),i + n = V + 2 → arm_wires.L1 (.int .i64 (h : Int)) x1 (.int .i64 ((i : Int) - V)) ((upT h V i).map cellF) = arm_wires.L0 (.int .i64 (h : Int)) x1 ((upT h V (V + 2)).map cellF):=by
 intro n
 induction n with
 | zero =>
  intro i hi
  obtain rfl : i = V + 2:=by omega
  rw [arm_wires.L1_eq]
  simp only [fBin_leq,bindO_s,fCond_b]
  rw [if_neg (by simp;omega)]
 | succ n ih =>
  intro i hi
  have e1 : IntKind.i64.wrap ((h : Int) + 1) = (h : Int) + 1:=wrap64 (by omega) (by omega)
  have e2 : IntKind.i64.wrap ((h : Int) + 2) = (h : Int) + 2:=wrap64 (by omega) (by omega)
  have e3 : IntKind.i64.wrap ((i : Int) - V + 1) = ((i + 1 : Nat) : Int) - V:=by rw [show (i : Int) - V + 1 = ((i + 1 : Nat) : Int) - V by omega];exact wrap64 (by omega) (by omega)
  have hlen:=upT_len h V i
  rw [arm_wires.L1_eq]
  simp only [fBin_leq,bindO_s,fCond_b,fBin_add,e1]
  rw [if_pos (by simp;omega)]
  have ih':=ih (i + 1) (by omega)
  rw [upT_succ] at ih'
  by_cases hz : (i : Int) - V ≤ 0
  ·rw [if_pos (by simp;omega),List.length_map,roomC (by omega),gB_t,snocF,arm_wires.L2_eq]
   simp only [bindO_s,fBin_add,e2,e3]
   rw [List.length_map,roomC (by simp;omega),gB_t,snocF,List.append_assoc]
   rw [if_pos hz] at ih'
   exact ih'
  ·rw [if_neg (by simp;omega),arm_wires.L2_eq]
   simp only [bindO_s,fBin_add,e2,e3]
   rw [List.length_map,roomC (by omega),gB_t,snocF]
   rw [if_neg hz] at ih'
   exact ih'
def upO (y : Int) : Option Nat:=if 0 ≤ y then some y.toNat else none
theorem wires_p (h : Nat) (y : Int) (hh : h ≤ 60) (hy : y ≤ 60) : arm_wires (.int .i64 (h : Int)) (.int .i64 y) = some (.arr ((wiresP h (upO y)).map cellF)):=by
 rw [arm_wires.eq]
 simp only [fBin_geq,bindO_s,fCond_b,upO]
 by_cases hy0 : 0 ≤ y
 ·obtain ⟨V,rfl⟩ : ∃ V : Nat,y = V:=⟨y.toNat,by omega⟩
  have e1 : IntKind.i64.wrap ((h : Int) + 1) = ((h + 2 : Nat) : Int) - 1:=by rw [show (h : Int) + 1 = ((h + 2 : Nat) : Int) - 1 by omega];exact wrap64 (by omega) (by omega)
  have e2 : fUn .neg (.int .i64 (V : Int)) = some (.int .i64 (((0 : Nat) : Int) - V)):=by
   show some (FV.int .i64 (IntKind.i64.wrap (0 - (V : Int)))) = _
   rw [wrap64 (by omega) (by omega)];rfl
  rw [if_pos (by simp),fBin_add,bindO_s,e1,e2,bindO_s,if_pos hy0]
  have:=wires_l1 h V hh (by omega) (.int .i64 (((h + 2 : Nat) : Int) - 1)) (V + 2) 0 (by omega)
  rw [show upT h V 0 = [] from rfl] at this
  rw [show ([] : List (List FV)) = ([] : List Cel).map cellF from rfl,this,wires_l0 h (h + 2) hh (by omega) _ (by have:=upT_len h V (V + 2);omega)]
  rfl
 ·rw [if_neg (by simpa using hy0),if_neg hy0]
  have:=wires_l0 h (h + 1) hh (by omega) [] (by simp)
  rw [show ((h + 1 : Nat) : Int) - 1 = (h : Int) by omega] at this
  exact this
theorem arm_l0 (h : Nat) (hh : h ≤ 60) (y : FV) : ∀ (n k : Nat),k + n = h + 1 → ref08_Arm.L0 (.int .i64 (h : Int)) y (.int .i64 9) (.int .i64 10) (.int .i64 (k : Int)) ((rowD k).map cellF) = ref08_Arm.L0 (.int .i64 (h : Int)) y (.int .i64 9) (.int .i64 10) (.int .i64 ((h + 1 : Nat) : Int)) ((rowD (h + 1)).map cellF):=by
 intro n
 induction n with
 | zero =>
  intro k hk
  obtain rfl : k = h + 1:=by omega
  rfl
 | succ n ih =>
  intro k hk
  have ek : IntKind.i64.wrap ((k : Int) + 1) = ((k + 1 : Nat) : Int):=wrap64 (by omega) (by omega)
  rw [ref08_Arm.L0_eq]
  simp only [fBin_leq,bindO_s,fCond_b,fBin_add,ek]
  rw [if_pos (by simp;omega),List.length_map,roomC (by rw [rowD_len];omega),gB_t,snocF2,← rowD_succ]
  exact ih (k + 1) (by omega)
theorem arm_l2 (h : Nat) (hh : h ≤ 60) (N : Nat) (hN : N ≤ 100) (acc : List Cel) (ha : acc.length ≤ 1000) : ∀ (n k : Nat),k + n = N → ref08_Arm.L2 (.int .i64 (h : Int)) (.int .i64 ((N : Int) - 1)) (.int .i64 10) (.int .i64 (k : Int)) ((acc ++ upD h k).map cellF) = some (canonD (acc ++ upD h N)):=by
 intro n
 induction n with
 | zero =>
  intro k hk
  obtain rfl : k = N:=by omega
  rw [ref08_Arm.L2_eq]
  simp only [fBin_leq,bindO_s,fCond_b]
  rw [if_neg (by simp;omega),canon_d _ (by simp only [List.length_append,upD_len];omega),bindO_s]
  unfold canonD
  cases decide (errC (acc ++ upD h k) = 0) with
  | false => rfl
  | true => cases decide ((canonC (acc ++ upD h k)).length ≤ 65536) <;> rfl
 | succ n ih =>
  intro k hk
  have ek : IntKind.i64.wrap ((k : Int) + 1) = ((k + 1 : Nat) : Int):=wrap64 (by omega) (by omega)
  have e1 : IntKind.i64.wrap ((h : Int) + 1) = (h : Int) + 1:=wrap64 (by omega) (by omega)
  have e2 : IntKind.i64.wrap ((h : Int) + 2) = (h : Int) + 2:=wrap64 (by omega) (by omega)
  have e3 : fUn .neg (.int .i64 (k : Int)) = some (.int .i64 (-(k : Int))):=by
   show some (FV.int .i64 (IntKind.i64.wrap (0 - (k : Int)))) = _
   rw [wrap64 (by omega) (by omega),Int.zero_sub]
  rw [ref08_Arm.L2_eq]
  simp only [fBin_leq,bindO_s,fCond_b,fBin_add,ek,e1,e2,e3]
  rw [if_pos (by simp;omega),List.length_map,roomC (by simp only [List.length_append,upD_len];omega),gB_t,snocF2,List.append_assoc,← upD_succ]
  exact ih (k + 1) (by omega)
theorem arm_d (h : Nat) (y : Int) (hs : stB h y = true) : ref08_Arm (.int .i64 (h : Int)) (.int .i64 y) = some (canonD (wiresD h (upO y))):=by
 have hb:=hs
 simp only [stB,Bool.and_eq_true,decide_eq_true_eq] at hb
 have hh : h ≤ 60:=by omega
 have e1 : IntKind.i64.wrap ((h : Int) + 1) = (h : Int) + 1:=wrap64 (by omega) (by omega)
 have e2 : IntKind.i64.wrap ((h : Int) + 2) = (h : Int) + 2:=wrap64 (by omega) (by omega)
 rw [ref08_Arm.eq,stands_d,hs]
 simp only [bindO_s,fUn_not,fCond_b]
 rw [if_neg (by simp)]
 have h0:=arm_l0 h hh (.int .i64 y) (h + 1) 0 (by omega)
 rw [show (rowD 0).map cellF = [] from rfl] at h0
 refine Eq.trans h0 ?_
 rw [ref08_Arm.L0_eq]
 simp only [fBin_leq,fBin_geq,bindO_s,fCond_b,fBin_add,e1,e2]
 rw [if_neg (by simp;omega)]
 by_cases hy0 : 0 ≤ y
 ·obtain ⟨V,rfl⟩ : ∃ V : Nat,y = V:=⟨y.toNat,by omega⟩
  rw [if_pos (by simp),List.length_map,roomC (by rw [rowD_len];omega),gB_t,snocF2,ref08_Arm.L1_eq]
  have:=arm_l2 h hh (V + 1) (by omega) (rowD (h + 1) ++ [((h : Int) + 1,1,17),((h : Int) + 2,1,18)]) (by simp only [List.length_append,rowD_len];simp;omega) (V + 1) 0 (by omega)
  rw [show upD h 0 = [] from rfl,List.append_nil,show ((V + 1 : Nat) : Int) - 1 = (V : Int) by omega] at this
  refine Eq.trans this ?_
  simp only [upO,if_pos hy0,wiresD,Int.toNat_natCast,List.append_assoc]
 ·rw [if_neg (by simpa using hy0),ref08_Arm.L1_eq]
  have:=arm_l2 h hh 0 (by omega) (rowD (h + 1)) (by rw [rowD_len];omega) 0 0 (by omega)
  rw [show upD h 0 = [] from rfl,List.append_nil,show ((0 : Nat) : Int) - 1 = y by omega] at this
  refine Eq.trans this ?_
  simp only [upO,if_neg hy0,wiresD]
theorem space_p : arm_space = some (.agg [.int .i64 0,.nilS]):=by
 rw [arm_space.eq]
theorem arm_p (h : Nat) (y : Int) (hs : stB h y = true) : arm_Arm (.int .i64 (h : Int)) (.int .i64 y) = some (canonD (wiresP h (upO y))):=by
 have hb:=hs
 simp only [stB,Bool.and_eq_true,decide_eq_true_eq] at hb
 rw [arm_Arm.eq,stands_p,hs]
 simp only [bindO_s,fUn_not,fCond_b]
 rw [if_neg (by simp),space_p]
 simp only [bindO_s,fIsAgg_agg,List.length_cons,List.length_nil,fCell_zero,fCell_succ]
 rw [wires_p h y (by omega) (by omega),bindO_s]
 have hlen : (wiresP h (upO y)).length ≤ 1000000:=by
  unfold upO
  split
  ·rename_i hy0
   have:=upT_len h y.toNat (y.toNat + 2)
   have e : upA h y.toNat = upT h y.toNat (y.toNat + 2):=rfl
   simp only [wiresP,e,List.length_append,rowA_len,rowB_len]
   omega
  ·simp only [wiresP,List.length_append,rowA_len,rowB_len]
   omega
 have eg : ∀ k : FV → Option FV,gB (0 + 1 + 1 == 2) (bindO (arrRows (.arr ((wiresP h (upO y)).map cellF))) fun r5 => bindO (cells_Canon (.agg [.int .i64 0,.nilS]) (.arr r5)) k) = bindO (cells_Canon (.agg [.int .i64 0,.nilS]) (.arr ((wiresP h (upO y)).map cellF))) k:=fun k => rfl
 rw [eg,canon_p _ hlen,bindO_s]
 unfold canonD
 cases decide (errC (wiresP h (upO y)) = 0) with
 | false => rfl
 | true => cases decide ((canonC (wiresP h (upO y))).length ≤ 65536) <;> rfl
end Go.Proofs.YtpffkpaiihcffaaGreatDoor
end
section
namespace Go.Proofs.YtpffkpaiihcffaaGreatDoor
open Go Go.Proofs Go.Proofs.YtpffkpaiihcffaaGreatDoor.VM Go.RowKit
def wordT : List (List UInt8 × Int):=[([48,48,48,48],9),([48,48,48,49],10),([48,48,49],11),([48,49,48],12),([48,49,49],17),([49,48,48],18),([49,48,49],19),([49,49,48],20),([49,49,49],25)]
noncomputable def wordL (s j : Int) : R:=cells_Word.L0 (.int .i64 s) (.str [48,48,48,48]) (.int .i64 9) (.str [48,48,48,49]) (.int .i64 10) (.str [48,48,49]) (.int .i64 11) (.str [48,49,48]) (.int .i64 12) (.str [48,49,49]) (.int .i64 17) (.str [49,48,48]) (.int .i64 18) (.str [49,48,49]) (.int .i64 19) (.str [49,49,48]) (.int .i64 20) (.str [49,49,49]) (.int .i64 25) (.int .i64 j)
theorem word_end (s : Int) : wordL s 9 = some (.tup [.str [],.bool false]):=by
 unfold wordL
 rw [cells_Word.L0_eq]
 simp
theorem word_step (s : Int) (j : Nat) (p : List UInt8 × Int) (h : wordT[j]? = some p) : wordL s (j : Int) = if p.2 = s then some (.tup [.str (49 :: p.1),.bool true]) else wordL s ((j + 1 : Nat) : Int):=by
 have hj : j < 9:=(List.getElem?_eq_some_iff.1 h).1
 have ej : IntKind.i64.wrap ((j : Int) + 1) = ((j + 1 : Nat) : Int):=wrap64 (by omega) (by omega)
 unfold wordL
 rw [cells_Word.L0_eq]
 simp only [fBin_lss,bindO_s,fCond_b,asNat_nat,ej,fBin_add]
 rw [if_pos (by simp;omega)]
 have fs : ∀ b : List UInt8,b.length ≤ 9 → fBin .add (.str [49]) (.str b) = some (.str (49 :: b)):=fun b hb => by simp [fBin];omega
 match j,hj,h with
 | 0,_,h | 1,_,h | 2,_,h | 3,_,h | 4,_,h | 5,_,h | 6,_,h | 7,_,h | 8,_,h =>
  cases h
  simp [fs]
theorem word_p (s : Int) : ∃ w,cells_Word (.int .i64 s) = some (.tup [.str w,.bool (quietC s)]):=by
 rw [cells_Word.eq]
 change ∃ w,wordL s ((0 : Nat) : Int) = _
 rw [word_step s 0 _ rfl,word_step s 1 _ rfl,word_step s 2 _ rfl,word_step s 3 _ rfl,word_step s 4 _ rfl,word_step s 5 _ rfl,word_step s 6 _ rfl,word_step s 7 _ rfl,word_step s 8 _ rfl,show ((8 + 1 : Nat) : Int) = 9 from rfl,word_end]
 simp only [eq_comm (b:=s)]
 unfold quietC
 by_cases h0 : s = 9
 ·subst h0;exact ⟨_,rfl⟩
 by_cases h1 : s = 10
 ·subst h1;exact ⟨_,rfl⟩
 by_cases h2 : s = 11
 ·subst h2;exact ⟨_,rfl⟩
 by_cases h3 : s = 12
 ·subst h3;exact ⟨_,rfl⟩
 by_cases h4 : s = 17
 ·subst h4;exact ⟨_,rfl⟩
 by_cases h5 : s = 18
 ·subst h5;exact ⟨_,rfl⟩
 by_cases h6 : s = 19
 ·subst h6;exact ⟨_,rfl⟩
 by_cases h7 : s = 20
 ·subst h7;exact ⟨_,rfl⟩
 by_cases h8 : s = 25
 ·subst h8;exact ⟨_,rfl⟩
 exact ⟨[],by simp [h0,h1,h2,h3,h4,h5,h6,h7,h8]⟩
def rightB (k c : Int) : Bool:=if k = 7 ∨ k = 8 then quietC c else decide (1 ≤ k) && (decide (k ≤ 6) && decide (c = 0))
theorem formed_p (k c : Int) : arm_formed (.agg [.int .i64 k,.int .i64 c]) = some (.bool (rightB k c)):=by
 obtain ⟨w,h⟩:=word_p c
 rw [arm_formed.eq]
 simp only [fIsAgg_agg,List.length_cons,List.length_nil,fCell_zero,fCell_succ,fBin_geq,fBin_leq,bindO_s,fCond_b,arm_formed.L0_eq,fBin_eql,h,rightB,fIsTup_tup,fTup_zero,fTup_succ]
 by_cases h7 : k = 7
 ·subst h7;simp
 by_cases h8 : k = 8
 ·subst h8;simp
 by_cases h1 : 1 ≤ k <;> by_cases h2 : k ≤ 6 <;> simp [h1,h2,h7,h8]
end Go.Proofs.YtpffkpaiihcffaaGreatDoor
end
section
namespace Go.Proofs.YtpffkpaiihcffaaGreatDoor
open Go Go.Proofs Go.Proofs.YtpffkpaiihcffaaGreatDoor.VM Go.RowKit
theorem errC_ok : ∀ {l : List Cel},(∀ c ∈ l,farC c = false ∧ stateC c.2.2 = true) → errC l = 0
 | [],_ => rfl
 | c :: l,h => by
  obtain ⟨h1,h2⟩:=h c (by simp)
  simp only [errC,h1,h2]
  exact errC_ok fun d hd => h d (by simp [hd])
theorem canonC_len (l : List Cel) : (canonC l).length ≤ l.length:=by
 have:=List.length_filter_le nzC (lastC l)
 have:=lastC_len l
 rw [canonC,sortC_len];omega
theorem wiresP_ok (h : Nat) (v : Option Nat) (hh : h ≤ 60) (hv : ∀ V,v = some V → V ≤ 60) : ∀ c ∈ wiresP h v,farC c = false ∧ stateC c.2.2 = true:=by
 intro c hc
 obtain ⟨x,y,s⟩:=c
 have fc : ∀ x y s : Int,-100 ≤ x → x ≤ 100 → -100 ≤ y → y ≤ 100 → 0 ≤ s → s < 29 → farC (x,y,s) = false ∧ stateC s = true:=fun x y s a1 a2 a3 a4 a5 a6 => by
  refine ⟨?_,by simp [stateC,a5,a6]⟩
  simp only [farC,Bool.or_eq_false_iff,decide_eq_false_iff_not]
  omega
 cases v with
 | none =>
  simp only [wiresP,List.mem_append,rowA_mem,rowB_mem,Prod.mk.injEq] at hc
  exact fc _ _ _ (by omega) (by omega) (by omega) (by omega) (by omega) (by omega)
 | some V =>
  have:=hv V rfl
  simp only [wiresP,List.mem_append,rowA_mem,rowB_mem,upA_mem,Prod.mk.injEq] at hc
  exact fc _ _ _ (by omega) (by omega) (by omega) (by omega) (by omega) (by omega)
theorem wiresP_len (h : Nat) (v : Option Nat) (hh : h ≤ 60) (hv : ∀ V,v = some V → V ≤ 60) : (wiresP h v).length ≤ 1000:=by
 cases v with
 | none => simp only [wiresP,List.length_append,rowA_len,rowB_len];omega
 | some V =>
  have:=hv V rfl
  have h1:=upT_len h V (V + 2)
  have e : upA h V = upT h V (V + 2):=rfl
  simp only [wiresP,e,List.length_append,rowA_len,rowB_len];omega
end Go.Proofs.YtpffkpaiihcffaaGreatDoor
end
section
namespace Go.Proofs.YtpffkpaiihcffaaGreatDoor
open Go Go.Proofs.YtpffkpaiihcffaaGreatDoor.VM
end Go.Proofs.YtpffkpaiihcffaaGreatDoor
end
section
namespace Go.Proofs.YtpffkpaiihcffaaGreatDoor
open Go Go.Proofs Go.Proofs.YtpffkpaiihcffaaGreatDoor.VM Go.RowKit
def moveF (m : Mv) : List FV:=[.int .i64 m.1,.int .i64 m.2]
theorem moveF_len (m : Mv) : (moveF m).length = 2:=rfl
theorem snocM (acc : List Mv) (a b : Int) : acc.map moveF ++ [[FV.int .i64 a,.int .i64 b]] = (acc ++ [(a,b)]).map moveF:=by simp [moveF]
theorem roomM {n : Nat} (h : n ≤ 1000000) : decide (n * 16 ≤ room) = true:=decide_eq_true (by unfold room;omega)
theorem fLen_colsF (cols : List (List Int)) : fLen (colsF cols) = some (.int .i64 (cols.length : Int)):=by cases cols <;> simp [colsF]
theorem fLen_colF (c : List Int) : fLen (colF c) = some (.int .i64 (c.length : Int)):=by cases c <;> simp [colF]
theorem idx_colsF {cols : List (List Int)} {j : Nat} (h : j < cols.length) : fIdxC 1 (colsF cols) (.int .i64 (j : Int)) = some [colF (cols.getD j [])]:=by
 cases cols with
 | nil => simp at h
 | cons a l => exact idx_arr (by rw [List.getElem?_map,List.getElem?_eq_getElem h,List.getD_eq_getElem?_getD,List.getElem?_eq_getElem h];rfl) rfl
theorem idx_colF {c : List Int} {k : Nat} (h : k < c.length) : fIdxC 1 (colF c) (.int .i64 (k : Int)) = some [.int .i64 (c.getD k 0)]:=by
 cases c with
 | nil => simp at h
 | cons a l => exact idx_arr (by rw [List.getElem?_map,List.getElem?_eq_getElem h,List.getD_eq_getElem?_getD,List.getElem?_eq_getElem h];rfl) rfl
theorem repM_succ (k : Int) (n : Nat) : repM k (n + 1) = repM k n ++ [(k,0)]:=by simp [repM,List.replicate_succ']
theorem times_l0 (k : Int) (N : Nat) (hN : N ≤ 1000) : ∀ (n j : Nat),j + n = N → arm_times.L0 (.int .i64 k) (.int .i64 (N : Int)) (.int .i64 (j : Int)) ((repM k j).map moveF) = some (.arr ((repM k N).map moveF)):=by
 intro n
 induction n with
 | zero =>
  intro j hj
  obtain rfl : j = N:=by omega
  rw [arm_times.L0_eq]
  simp only [fBin_lss,bindO_s,fCond_b]
  rw [if_neg (by simp)]
 | succ n ih =>
  intro j hj
  have ej : IntKind.i64.wrap ((j : Int) + 1) = ((j + 1 : Nat) : Int):=wrap64 (by omega) (by omega)
  rw [arm_times.L0_eq]
  simp only [fBin_lss,bindO_s,fCond_b,fBin_add,ej]
  rw [if_pos (by simp;omega),List.length_map,roomM (by simp [repM];omega),gB_t,snocM,← repM_succ]
  exact ih (j + 1) (by omega)
theorem times_p (k : Int) (n : Int) (hn : n ≤ 1000) : arm_times (.int .i64 k) (.int .i64 n) = some (.arr ((repM k n.toNat).map moveF)):=by
 rw [arm_times.eq]
 by_cases h : 0 ≤ n
 ·obtain ⟨N,rfl⟩ : ∃ N : Nat,n = N:=⟨n.toNat,by omega⟩
  exact times_l0 k N (by omega) N 0 (by omega)
 ·rw [arm_times.L0_eq]
  simp only [fBin_lss,bindO_s,fCond_b]
  rw [if_neg (by simp;omega),show n.toNat = 0 by omega]
  rfl
theorem downP_len (c : List Int) : ∀ k,(downP c k).length ≤ 2 * k
 | 0 => by simp [downP]
 | k + 1 => by
  have:=downP_len c k
  simp only [downP,List.length_append]
  repeat' split
  all_goals simp;omega
theorem repM_len (k : Int) (n : Nat) : (repM k n).length = n:=by simp [repM]
theorem colP_len (c : List Int) : (colP c).length ≤ 3 * c.length + 2:=by
 have:=downP_len c c.length
 unfold colP
 split
 ·simp
 ·simp only [List.length_cons,List.length_append,repM_len,List.length_nil];omega
theorem seqP_len (cols : List (List Int)) (hc : ∀ j,(cols.getD j []).length ≤ 100) : ∀ n,(seqP cols n).length ≤ 400 * n
 | 0 => by simp [seqP]
 | n + 1 => by
  have h1:=seqP_len cols hc n
  have h2:=colP_len (cols.getD n [])
  have h3:=hc n
  rw [seqP_succ,List.length_append,List.length_append]
  have h4 : (preM n).length ≤ 1:=by unfold preM;split <;> simp
  omega
theorem moves_l2 (c : List Int) (hc : c.length ≤ 100) (j : Nat) (hj : j ≤ 1000) (x2 x3 x5 : FV) (r : List (List FV)) : ∀ (n : Nat) (acc : List Mv),n ≤ c.length → acc.length + 2 * n ≤ 900000 →
  arm_Moves.L2 (colF c) (.int .i64 ((n : Int) - 1)) x2 x3 (.int .i64 (j : Int)) x5 r (acc.map moveF) = arm_Moves.L0 x2 x3 (.int .i64 ((j + 1 : Nat) : Int)) x5 ((acc ++ (downP c n ++ [(6,0)])).map moveF):=by
 intro n
 induction n with
 | zero =>
  intro acc hn ha
  have ej : IntKind.i64.wrap ((j : Int) + 1) = ((j + 1 : Nat) : Int):=wrap64 (by omega) (by omega)
  rw [arm_Moves.L2_eq]
  simp only [fBin_geq,bindO_s,fCond_b,fBin_add,ej]
  rw [if_neg (by simp),List.length_map,roomM (by omega),gB_t,snocM]
  simp [downP]
 | succ n ih =>
  intro acc hn ha
  have e0 : ((n + 1 : Nat) : Int) - 1 = (n : Int):=by omega
  have e1 : IntKind.i64.wrap ((n : Int) - 1) = (n : Int) - 1:=wrap64 (by omega) (by omega)
  have step : ∀ acc : List Mv,acc.length + (2 * n + 1) ≤ 900000 → arm_Moves.L3 (colF c) (.int .i64 (n : Int)) x2 x3 (.int .i64 (j : Int)) x5 r (acc.map moveF) = arm_Moves.L0 x2 x3 (.int .i64 ((j + 1 : Nat) : Int)) x5 ((acc ++ ((if 0 < n then [(5,0)] else []) ++ (downP c n ++ [(6,0)]))).map moveF):=fun acc ha => by
   rw [arm_Moves.L3_eq]
   simp only [fBin_gtr,bindO_s,fCond_b,fBin_sub,e1]
   by_cases h : 0 < n
   ·rw [if_pos (by simp;omega),List.length_map,roomM (by omega),gB_t,snocM,ih _ (by omega) (by simp;omega),if_pos h]
    simp
   ·rw [if_neg (by simp;omega),ih _ (by omega) (by omega),if_neg h]
    simp
  rw [e0,arm_Moves.L2_eq]
  simp only [fBin_geq,bindO_s,fCond_b]
  rw [if_pos (by simp),idx_colF (by omega)]
  simp only [bindO_s,List.getElem?_cons_zero,fBin_neq,fCond_b]
  have e : downP c (n + 1) = (if c.getD n 0 ≠ 0 then [(7,c.getD n 0)] else []) ++ ((if 0 < n then [(5,0)] else []) ++ downP c n):=rfl
  obtain ⟨s,hs⟩ : ∃ s,c.getD n 0 = s:=⟨_,rfl⟩
  rw [hs] at e ⊢
  by_cases hz : s = 0
  ·subst hz
   rw [if_neg (by simp),step acc (by omega),e]
   simp
  ·rw [if_pos (decide_eq_true hz),List.length_map,roomM (by omega),gB_t,snocM,step _ (by simp;omega),e]
   simp [hz]
theorem moves_l0 (cols : List (List Int)) (hN : cols.length ≤ 100) (hc : ∀ j,(cols.getD j []).length ≤ 100) : ∀ (n j : Nat),j + n = cols.length →
  arm_Moves.L0 (colsF cols) (.int .i64 (cols.length : Int)) (.int .i64 (j : Int)) (colsF cols) ((seqP cols j).map moveF) = some (.tup [.arr ((movP cols).map moveF),.int .i64 0]):=by
 intro n
 induction n with
 | zero =>
  intro j hj
  obtain rfl : j = cols.length:=by omega
  have hl:=seqP_len cols hc cols.length
  have e1 : IntKind.i64.wrap ((cols.length : Int) - 1) = (cols.length : Int) - 1:=wrap64 (by omega) (by omega)
  rw [arm_Moves.L0_eq]
  simp only [fBin_lss,bindO_s,fCond_b,fLen_colsF,fBin_sub,e1]
  rw [if_neg (by simp),times_p 2 _ (by omega),bindO_s,arrRows_arr,bindO_s,rowsSz_map moveF_len,gB_t,List.length_map,List.length_map,roomM (by rw [repM_len];omega),gB_t,← List.map_append]
  rw [show ((cols.length : Int) - 1).toNat = cols.length - 1 by omega]
  rfl
 | succ n ih =>
  intro j hj
  have hl:=seqP_len cols hc j
  have hcj:=hc j
  have ej : IntKind.i64.wrap ((j : Int) + 1) = ((j + 1 : Nat) : Int):=wrap64 (by omega) (by omega)
  have ih':=ih (j + 1) (by omega)
  rw [seqP_succ] at ih'
  have col : ∀ acc : List Mv,acc.length ≤ 50000 → arm_Moves.L1 (colF (cols.getD j [])) (colsF cols) (.int .i64 (cols.length : Int)) (.int .i64 (j : Int)) (colsF cols) (acc.map moveF) = arm_Moves.L0 (colsF cols) (.int .i64 (cols.length : Int)) (.int .i64 ((j + 1 : Nat) : Int)) (colsF cols) ((acc ++ colP (cols.getD j [])).map moveF):=fun acc ha => by
   generalize cols.getD j [] = c at hcj
   have e1 : IntKind.i64.wrap ((c.length : Int) - 1) = (c.length : Int) - 1:=wrap64 (by omega) (by omega)
   rw [arm_Moves.L1_eq]
   simp only [fLen_colF,bindO_s,fBin_eql,fCond_b,fBin_add,fBin_sub,ej,e1]
   by_cases h0 : c.length = 0
   ·rw [if_pos (decide_eq_true (by omega))]
    simp [colP,h0]
   ·rw [if_neg (by rw [decide_eq_true_eq];omega),List.length_map,roomM (by omega),gB_t,times_p 4 _ (by omega),bindO_s,arrRows_arr,bindO_s,rowsSz_map moveF_len,gB_t,snocM,List.length_map,List.length_map,roomM (by simp [repM_len];omega),gB_t,← List.map_append]
    rw [moves_l2 c hcj j (by omega) _ _ _ _ c.length _ (Nat.le_refl _) (by simp [repM_len];omega)]
    rw [show ((c.length : Int) - 1).toNat = c.length - 1 by omega]
    unfold colP
    rw [if_neg h0]
    simp
  rw [arm_Moves.L0_eq]
  simp only [fBin_lss,bindO_s,fCond_b]
  rw [if_pos (by simp;omega),idx_colsF (by omega)]
  simp only [bindO_s,List.getElem?_cons_zero,fBin_gtr,fCond_b]
  by_cases h0 : 0 < j
  ·rw [if_pos (by simp;omega),List.length_map,roomM (by omega),gB_t,snocM,col _ (by simp;omega)]
   unfold preM at ih'
   rw [if_pos h0] at ih'
   rw [List.append_assoc]
   exact ih'
  ·rw [if_neg (by simp;omega),col _ (by omega)]
   unfold preM at ih'
   rw [if_neg h0,List.nil_append] at ih'
   exact ih'
end Go.Proofs.YtpffkpaiihcffaaGreatDoor
end
section
namespace Go.Proofs.YtpffkpaiihcffaaGreatDoor
open Go Go.Proofs Go.Proofs.YtpffkpaiihcffaaGreatDoor.VM Go.RowKit
theorem upP_len (c : List Int) : ∀ n,(upP c n).length ≤ 2 * n
 | 0 => by simp [upP]
 | n + 1 => by
  have:=upP_len c n
  rw [upP_succ,List.length_append,List.length_append]
  repeat' split
  all_goals simp;omega
theorem colW_len (c : List Int) : (colW c).length ≤ 3 * c.length + 2:=by
 have:=upP_len c c.length
 unfold colW
 split
 ·simp
 ·simp only [List.length_cons,List.length_append,repM_len,List.length_nil];omega
theorem wipe_l2 (c : List Int) (hc : c.length ≤ 100) (x0 x5 : FV) (acc0 : List Mv) (h0 : acc0.length ≤ 100000) : ∀ (n k : Nat),k + n = c.length →
  arm_Wipe.L2 x0 (colF c) (colF c) (.int .i64 (c.length : Int)) (.int .i64 (k : Int)) x5 ((acc0 ++ upP c k).map moveF) = arm_Wipe.L1 x0 x5 ((acc0 ++ (upP c c.length ++ (repM 5 (c.length - 1) ++ [(6,0)]))).map moveF):=by
 intro n
 induction n with
 | zero =>
  intro k hk
  obtain rfl : k = c.length:=by omega
  have hl:=upP_len c c.length
  have e1 : IntKind.i64.wrap ((c.length : Int) - 1) = (c.length : Int) - 1:=wrap64 (by omega) (by omega)
  rw [arm_Wipe.L2_eq]
  simp only [fBin_lss,bindO_s,fCond_b,fLen_colF,fBin_sub,e1]
  rw [if_neg (by rw [decide_eq_true_eq];omega),times_p 5 _ (by omega),bindO_s,arrRows_arr,bindO_s,rowsSz_map moveF_len,gB_t,← List.map_append,List.length_map,List.length_map,List.length_map]
  have hr : (repM 5 ((c.length : Int) - 1).toNat).length = ((c.length : Int) - 1).toNat:=repM_len _ _
  rw [roomM (by simp only [List.length_append,hr];omega),gB_t,roomM (by simp only [List.length_append,hr];omega),gB_t,snocM,show ((c.length : Int) - 1).toNat = c.length - 1 by omega]
  simp only [List.append_assoc]
 | succ n ih =>
  intro k hk
  have hl:=upP_len c k
  have ek : IntKind.i64.wrap ((k : Int) + 1) = ((k + 1 : Nat) : Int):=wrap64 (by omega) (by omega)
  have ih':=ih (k + 1) (by omega)
  rw [upP_succ] at ih'
  obtain ⟨s,hs⟩ : ∃ s,c.getD k 0 = s:=⟨_,rfl⟩
  have step : ∀ acc : List Mv,acc.length ≤ 200000 → arm_Wipe.L3 x0 (colF c) (.int .i64 s) (colF c) (.int .i64 (c.length : Int)) (.int .i64 (k : Int)) x5 (acc.map moveF) = arm_Wipe.L2 x0 (colF c) (colF c) (.int .i64 (c.length : Int)) (.int .i64 ((k + 1 : Nat) : Int)) x5 ((acc ++ (if s ≠ 0 then [(8,s)] else [])).map moveF):=fun acc ha => by
   rw [arm_Wipe.L3_eq]
   simp only [fBin_neq,bindO_s,fCond_b,fBin_add,ek]
   by_cases hz : s = 0
   ·subst hz
    rw [if_neg (by simp)]
    simp
   ·rw [if_pos (decide_eq_true hz),List.length_map,roomM (by omega),gB_t,snocM,if_pos hz]
  rw [arm_Wipe.L2_eq]
  simp only [fBin_lss,bindO_s,fCond_b]
  rw [if_pos (decide_eq_true (by omega)),idx_colF (by omega),hs]
  simp only [bindO_s,List.getElem?_cons_zero,fBin_gtr,fCond_b]
  rw [hs] at ih'
  by_cases hk0 : 0 < k
  ·rw [if_pos (decide_eq_true (by omega)),List.length_map,roomM (by simp only [List.length_append];omega),gB_t,snocM,step _ (by simp only [List.length_append,List.length_cons,List.length_nil];omega)]
   rw [if_pos hk0] at ih'
   simp only [List.append_assoc] at ih' ⊢
   exact ih'
  ·rw [if_neg (by rw [decide_eq_true_eq];omega),step _ (by simp only [List.length_append];omega)]
   rw [if_neg hk0,List.nil_append] at ih'
   simp only [List.append_assoc] at ih' ⊢
   exact ih'
theorem wipe_l0 (cols : List (List Int)) (hN : cols.length ≤ 100) (hc : ∀ j,(cols.getD j []).length ≤ 100) : ∀ (n : Nat) (acc : List Mv),n ≤ cols.length → acc.length + 400 * n ≤ 90000 →
  arm_Wipe.L0 (.int .i64 ((n : Int) - 1)) (colsF cols) (acc.map moveF) = some (.tup [.arr ((acc ++ seqW cols n).map moveF),.int .i64 0]):=by
 intro n
 induction n with
 | zero =>
  intro acc hn ha
  rw [arm_Wipe.L0_eq]
  simp only [fBin_geq,bindO_s,fCond_b]
  rw [if_neg (by rw [decide_eq_true_eq];omega)]
  simp [seqW]
 | succ j ih =>
  intro acc hn ha
  have hcj:=hc j
  have e0 : ((j + 1 : Nat) : Int) - 1 = (j : Int):=by omega
  have e1 : IntKind.i64.wrap ((j : Int) - 1) = (j : Int) - 1:=wrap64 (by omega) (by omega)
  have step : ∀ acc : List Mv,acc.length + 400 * j + 1 ≤ 90000 → arm_Wipe.L1 (.int .i64 (j : Int)) (colsF cols) (acc.map moveF) = some (.tup [.arr ((acc ++ ((if 0 < j then [(2,0)] else []) ++ seqW cols j)).map moveF),.int .i64 0]):=fun acc ha => by
   rw [arm_Wipe.L1_eq]
   simp only [fBin_gtr,bindO_s,fCond_b,fBin_sub,e1]
   by_cases h : 0 < j
   ·rw [if_pos (decide_eq_true (by omega)),List.length_map,roomM (by omega),gB_t,snocM,ih _ (by omega) (by simp only [List.length_append,List.length_cons,List.length_nil];omega),if_pos h]
    simp
   ·rw [if_neg (by rw [decide_eq_true_eq];omega),ih _ (by omega) (by omega),if_neg h]
    simp
  rw [e0,arm_Wipe.L0_eq]
  simp only [fBin_geq,bindO_s,fCond_b]
  rw [if_pos (decide_eq_true (by omega)),idx_colsF (by omega)]
  simp only [bindO_s,List.getElem?_cons_zero,fLen_colF,fBin_gtr,fCond_b]
  have e : seqW cols (j + 1) = colW (cols.getD j []) ++ ((if 0 < j then [(2,0)] else []) ++ seqW cols j):=rfl
  rw [e]
  generalize cols.getD j [] = c at hcj
  have hw:=colW_len c
  by_cases h0 : c.length = 0
  ·rw [if_neg (by rw [decide_eq_true_eq];omega),step _ (by omega)]
   simp [colW,h0]
  ·rw [if_pos (decide_eq_true (by omega)),List.length_map,roomM (by omega),gB_t,snocM]
   have h2:=wipe_l2 c hcj (.int .i64 (j : Int)) (colsF cols) (acc ++ [(3,0)]) (by simp only [List.length_append,List.length_cons,List.length_nil];omega) c.length 0 (by omega)
   rw [show upP c 0 = [] from rfl,List.append_nil] at h2
   refine Eq.trans h2 ?_
   have hu:=upP_len c c.length
   rw [step _ (by simp only [List.length_append,List.length_cons,List.length_nil,repM_len];omega)]
   unfold colW
   rw [if_neg h0]
   simp
theorem read_p (l : List Cel) (hl : l.length ≤ 1000000) : arm_read (.arr (l.map cellF)) = some (readA l):=by
 have e : arm_read (.arr (l.map cellF)) = readOv [.arr (l.map cellF)]:=(den_eq E 43 _).trans (by kernel_rfl)
 rw [e]
 simp only [readOv,asRows_arr,bindO_s,celsF_cells,decide_eq_true hl,gB_t]
def badC (l : List Cel) : Int:=match decide (properC l = 0) with | false => properC l | true => fieldC l
def outP (l : List Cel) (ms : List Mv) : FV:=match decide (badC l = 0) with | false => .tup [.arr [],.int .i64 (badC l)] | true => .tup [.arr (ms.map moveF),.int .i64 0]
theorem readA_bad (l : List Cel) : readA l = match decide (badC l = 0) with | false => .tup [.agg [.nilS],.int .i64 (badC l)] | true => .tup [.agg [colsF (colsOf l)],.int .i64 0]:=by
 unfold readA badC
 by_cases h : properC l = 0
 ·simp only [h,decide_true]
  by_cases h2 : fieldC l = 0 <;> simp [h2]
 ·simp [h]
theorem bad_ok {l : List Cel} (h : badC l = 0) : properC l = 0 ∧ fieldC l = 0:=by
 unfold badC at h
 split at h
 ·rename_i h1;rw [h] at h1;simp at h1
 ·rename_i h1;exact ⟨of_decide_eq_true h1,h⟩
theorem cols_small {l : List Cel} (h : badC l = 0) : (colsOf l).length ≤ 100 ∧ ∀ j,((colsOf l).getD j []).length ≤ 100:=by
 have hi:=field_in (bad_ok h).2
 have h1:=cols_len l hi
 refine ⟨by omega,fun j => ?_⟩
 have h2:=cols_top l hi j
 omega
theorem moves_p (l : List Cel) (hl : l.length ≤ 1000000) : arm_Moves (.arr (l.map cellF)) = some (outP l (movP (colsOf l))):=by
 rw [arm_Moves.eq,read_p l hl,bindO_s,readA_bad]
 unfold outP
 by_cases h : badC l = 0
 ·obtain ⟨h1,h2⟩:=cols_small h
  have:=moves_l0 (colsOf l) h1 h2 (colsOf l).length 0 (by omega)
  rw [show seqP (colsOf l) 0 = [] from rfl] at this
  simp only [decide_eq_true h,fIsTup_tup,List.length_cons,List.length_nil,fTup_zero,fTup_succ,fIsAgg_agg,fCell_zero,fBin_neq,bindO_s,fCond_b,fLen_colsF]
  exact this
 ·simp only [decide_eq_false h,fIsTup_tup,List.length_cons,List.length_nil,fTup_zero,fTup_succ,fIsAgg_agg,fCell_zero,fBin_neq,bindO_s,fCond_b,if_pos (decide_eq_true h)]
  rfl
theorem wipe_p (l : List Cel) (hl : l.length ≤ 1000000) : arm_Wipe (.arr (l.map cellF)) = some (outP l (wipP (colsOf l))):=by
 rw [arm_Wipe.eq,read_p l hl,bindO_s,readA_bad]
 unfold outP
 by_cases h : badC l = 0
 ·obtain ⟨h1,h2⟩:=cols_small h
  have e1 : IntKind.i64.wrap (((colsOf l).length : Int) - 1) = ((colsOf l).length : Int) - 1:=wrap64 (by omega) (by omega)
  have:=wipe_l0 (colsOf l) h1 h2 (colsOf l).length (repM 1 ((colsOf l).length - 1)) (Nat.le_refl _) (by rw [repM_len];omega)
  simp only [decide_eq_true h,fIsTup_tup,List.length_cons,List.length_nil,fTup_zero,fTup_succ,fIsAgg_agg,fCell_zero,fBin_neq,bindO_s,fCond_b,fLen_colsF,fBin_sub,e1,times_p 1 _ (show ((colsOf l).length : Int) - 1 ≤ 1000 by omega),arrRows_arr]
  rw [show (((colsOf l).length : Int) - 1).toNat = (colsOf l).length - 1 by omega]
  exact this
 ·simp only [decide_eq_false h,fIsTup_tup,List.length_cons,List.length_nil,fTup_zero,fTup_succ,fIsAgg_agg,fCell_zero,fBin_neq,bindO_s,fCond_b,if_pos (decide_eq_true h)]
  rfl
end Go.Proofs.YtpffkpaiihcffaaGreatDoor
end
section
namespace Go.Proofs.YtpffkpaiihcffaaGreatDoor
open Go Go.Proofs Go.Proofs.YtpffkpaiihcffaaGreatDoor.VM Go.RowKit
end Go.Proofs.YtpffkpaiihcffaaGreatDoor
end
section
namespace Go.Proofs.YtpffkpaiihcffaaGreatDoor
open Go Go.Proofs Go.Proofs.YtpffkpaiihcffaaGreatDoor.VM Go.RowKit
end Go.Proofs.YtpffkpaiihcffaaGreatDoor
end
section
namespace Go.Proofs.YtpffkpaiihcffaaGreatDoor
open Go Go.Proofs Go.Proofs.YtpffkpaiihcffaaGreatDoor.VM Go.RowKit
theorem sameM_l0 (ms : List Mv) (hl : ms.length ≤ 1000000) : ∀ (s : List Mv) (k : Nat),ms.drop k = s → law08_sameMoves.L0 (.arr (ms.map moveF)) (.arr (ms.map moveF)) (.int .i64 (k : Int)) = some (.bool true):=by
 intro s
 induction s with
 | nil =>
  intro k hd
  have hk:=drop_nil hd
  rw [law08_sameMoves.L0_eq]
  simp only [fLen_arr,List.length_map,bindO_s,fBin_lss,fCond_b]
  rw [if_neg (by rw [decide_eq_true_eq];omega)]
 | cons c s ih =>
  intro k hd
  obtain ⟨hk,hc,hs⟩:=drop_cons hd
  have ek : IntKind.i64.wrap ((k : Int) + 1) = ((k + 1 : Nat) : Int):=wrap64 (by omega) (by omega)
  have hidx : fIdxC 2 (.arr (ms.map moveF)) (.int .i64 (k : Int)) = some (moveF c):=idx_arr (by rw [List.getElem?_map,hc];rfl) rfl
  have hagg : fAggBin [.int,.int] .neq [FV.int .i64 c.1,.int .i64 c.2] [FV.int .i64 c.1,.int .i64 c.2] = some (.bool false):=by simp [fAggBin,cellsEq,scalarEq]
  rw [law08_sameMoves.L0_eq]
  simp only [fLen_arr,List.length_map,bindO_s,fBin_lss,fCond_b]
  rw [if_pos (decide_eq_true (by omega)),hidx]
  simp only [bindO_s,moveF,List.getElem?_cons_zero,List.getElem?_cons_succ,hagg,fCond_b,fBin_add,ek]
  rw [if_neg (by simp)]
  exact ih (k + 1) hs
end Go.Proofs.YtpffkpaiihcffaaGreatDoor
end
section
namespace Go.Proofs.YtpffkpaiihcffaaGreatDoor
open Go Go.Proofs Go.Proofs.YtpffkpaiihcffaaGreatDoor.VM Go.RowKit
theorem movP_len {l : List Cel} (h : badC l = 0) : (movP (colsOf l)).length ≤ 1000000:=by
 obtain ⟨h1,h2⟩:=cols_small h
 have:=seqP_len (colsOf l) h2 (colsOf l).length
 rw [movP,List.length_append,repM_len];omega
theorem seqW_len (cols : List (List Int)) (hc : ∀ j,(cols.getD j []).length ≤ 100) : ∀ n,(seqW cols n).length ≤ 400 * n
 | 0 => by simp [seqW]
 | n + 1 => by
  have h1:=seqW_len cols hc n
  have h2:=colW_len (cols.getD n [])
  have h3:=hc n
  have h4 : (if 0 < n then [((2 : Int),(0 : Int))] else []).length ≤ 1:=by split <;> simp
  have e : seqW cols (n + 1) = colW (cols.getD n []) ++ ((if 0 < n then [(2,0)] else []) ++ seqW cols n):=rfl
  rw [e,List.length_append,List.length_append]
  omega
end Go.Proofs.YtpffkpaiihcffaaGreatDoor
end
section
namespace Go.Proofs.YtpffkpaiihcffaaGreatDoor
open Go Go.Proofs Go.Proofs.YtpffkpaiihcffaaGreatDoor.VM Go.RowKit
def eR (b : Bool) : Int:=match b with | true => 0 | false => 80
theorem pulA_bad {k s : Int} (h : rgtA k s = false) : pulA k s = ([],[]):=by
 have key : ∀ a b : Int,rgtA a b = true → ¬ (k = a ∧ s = b):=fun a b hab ⟨h1,h2⟩ => by subst h1;subst h2;rw [h] at hab;cases hab
 unfold pulA
 repeat rw [if_neg (key _ _ (by decide))]
theorem pulR_eq (k s : Int) : pulR k s = .tup [.agg [.str (pulA k s).1,.str (pulA k s).2],.int .i64 (eR (rgtA k s))]:=by
 unfold pulR trainF
 cases h : rgtA k s with
 | true => rfl
 | false => rw [pulA_bad h];rfl
theorem pulses_p (k s : Int) : arm_Pulses (.agg [.int .i64 k,.int .i64 s]) = some (.tup [.agg [.str (pulA k s).1,.str (pulA k s).2],.int .i64 (eR (rgtA k s))]):=by
 have e : arm_Pulses (.agg [.int .i64 k,.int .i64 s]) = pulOv [.agg [.int .i64 k,.int .i64 s]]:=(den_eq E 24 _).trans (by kernel_rfl)
 rw [e,pulOv,pulR_eq]
theorem mvsF_mv : ∀ ms : List Mv,mvsF (ms.map moveF) = some ms
 | [] => rfl
 | m :: l => by
  rw [List.map_cons,mvsF,mvsF_mv l]
  rfl
def lenM (m : Mv) : Int:=((pulA m.1 m.2).1.length : Int)
def kvM (m : Mv) : FV × FV:=(.agg [.int .i64 m.1,.int .i64 m.2],.int .i64 (lenM m))
theorem keyEq_mv (c d : Mv) : keyEq true [.int,.int] (.agg [.int .i64 c.1,.int .i64 c.2]) (kvM d).1 = some (decide (c = d)):=by
 simp only [keyEq,kvM,cellsEq,scalarEq,if_true,bindO_s,Bool.and_true]
 congr 1
 rw [Bool.eq_iff_iff]
 simp [Prod.ext_iff]
theorem keyOk_mv (c : Mv) : keyOk true [.int,.int] (.agg [.int .i64 c.1,.int .i64 c.2]) = true:=rfl
theorem find_mv (c : Mv) : ∀ L : List Mv,mFind true [.int,.int] (L.map kvM) (.agg [.int .i64 c.1,.int .i64 c.2]) = some (if c ∈ L then some (.int .i64 (lenM c)) else none)
 | [] => rfl
 | d :: L => by
  rw [List.map_cons,mFind,keyEq_mv,bindO_s]
  by_cases h : c = d
  ·subst h;simp [kvM]
  ·rw [decide_eq_false h]
   simp only [find_mv c L,List.mem_cons,h,false_or]
theorem look_mv (c : Mv) (L : List Mv) : mLook true [.int,.int] (L.map kvM) (.agg [.int .i64 c.1,.int .i64 c.2]) (.int .i64 0) = some (.int .i64 (if c ∈ L then lenM c else 0),decide (c ∈ L)):=by
 unfold mLook
 rw [keyOk_mv,find_mv]
 by_cases h : c ∈ L <;> simp [h,gB,bindO]
theorem put_mv (c : Mv) : ∀ L : List Mv,∃ L' : List Mv,mPut true [.int,.int] (L.map kvM) (.agg [.int .i64 c.1,.int .i64 c.2]) (.int .i64 (lenM c)) = some (List.map kvM L') ∧ c ∈ L'
 | [] => ⟨[c],rfl,by simp⟩
 | d :: L => by
  rw [List.map_cons,mPut,keyEq_mv,bindO_s]
  by_cases h : c = d
  ·subst h
   exact ⟨c :: L,by simp [kvM],by simp⟩
  ·obtain ⟨L',h1,h2⟩:=put_mv c L
   refine ⟨d :: L',?_,by simp [h2]⟩
   rw [decide_eq_false h]
   simp [h1,bindO]
def sumM : List Mv → Int
 | [] => 0
 | m :: l => lenM m + sumM l
theorem lenM_le (m : Mv) : 0 ≤ lenM m ∧ lenM m ≤ 128:=by
 have:=(pul_len m.1 m.2).1
 unfold lenM;omega
theorem length_l0 (ms : List Mv) (hl : ms.length ≤ 1000000) : ∀ (s : List Mv) (k : Nat) (n : Int) (L : List Mv),ms.drop k = s → 0 ≤ n → n ≤ 128 * (k : Int) →
  arm_Length.L0 (.int .i64 n) (.int .i64 (ms.length : Int)) (.int .i64 (k : Int)) (ms.map moveF) (L.map kvM) = some (.tup [.int .i64 (n + sumM s),.int .i64 0]):=by
 intro s
 induction s with
 | nil =>
  intro k n L hd _ _
  have hk:=drop_nil hd
  rw [arm_Length.L0_eq]
  simp only [bindO_s,fBin_lss,fCond_b]
  rw [if_neg (by rw [decide_eq_true_eq];omega),sumM,Int.add_zero]
 | cons c s ih =>
  intro k n L hd h0 h1
  obtain ⟨hk,hc,hs⟩:=drop_cons hd
  have ek : IntKind.i64.wrap ((k : Int) + 1) = ((k + 1 : Nat) : Int):=wrap64 (by omega) (by omega)
  have hm : (ms.map moveF)[k]? = some (moveF c):=by rw [List.getElem?_map,hc];rfl
  have hidx : rIdx (ms.map moveF) (.int .i64 (k : Int)) = some k:=rIdx_at (by simpa using hk)
  have hg0 : rGet (ms.map moveF) k 0 = some (.int .i64 c.1):=by rw [rGet_at hm];rfl
  have hg1 : rGet (ms.map moveF) k 1 = some (.int .i64 c.2):=by rw [rGet_at hm];rfl
  have hlen:=lenM_le c
  have en : IntKind.i64.wrap (n + lenM c) = n + lenM c:=wrap64 (by omega) (by omega)
  have tail : ∀ L' : List Mv,c ∈ L' ∨ lenM c = 0 → arm_Length.L1 (.int .i64 n) (.int .i64 (ms.length : Int)) (.int .i64 (k : Int)) (ms.map moveF) (L'.map kvM) (.int .i64 c.1) (.int .i64 c.2) = some (.tup [.int .i64 (n + sumM (c :: s)),.int .i64 0]):=by
   intro L' hL
   have hv : (if c ∈ L' then lenM c else 0) = lenM c:=by
    rcases hL with h | h
    ·rw [if_pos h]
    ·rw [h];split <;> rfl
   rw [arm_Length.L1_eq]
   simp only [look_mv,hv,bindO_s,fBin_add,ek,en]
   rw [ih (k + 1) (n + lenM c) L' hs (by omega) (by omega),sumM,Int.add_assoc]
  rw [arm_Length.L0_eq]
  simp only [bindO_s,fBin_lss,fCond_b]
  rw [if_pos (decide_eq_true (by omega)),hidx]
  simp only [bindO_s,hg0,hg1,look_mv,fBin_eql,fCond_b,pulses_p,fIsTup_tup,fIsAgg_agg,List.length_cons,List.length_nil,fTup_zero,fCell_zero,fLenT_str,keyOk_mv,Nat.zero_add,Nat.reduceAdd,beq_self_eq_true,gB_t]
  by_cases hz : (if c ∈ L then lenM c else 0) = 0
  ·rw [if_pos (by rw [hz];rfl)]
   obtain ⟨L',h1,h2⟩:=put_mv c L
   rw [show ((pulA c.1 c.2).1.length : Int) = lenM c from rfl,h1,bindO_s]
   exact tail L' (.inl h2)
  ·rw [if_neg (by rw [decide_eq_true_eq];exact hz)]
   refine tail L (.inl ?_)
   by_cases h : c ∈ L
   ·exact h
   ·rw [if_neg h] at hz;exact absurd rfl hz
end Go.Proofs.YtpffkpaiihcffaaGreatDoor
end
section
namespace Go.Proofs.YtpffkpaiihcffaaGreatDoor
open Go Go.Proofs.YtpffkpaiihcffaaGreatDoor.VM
abbrev tcsArmKeeps : List TC:=[(.sl 24 (.cons (.int .i64) (.cons (.int .i64) (.cons (.int .i64) .nil)))),(.sl 16 (.cons (.int .i64) (.cons (.int .i64) .nil))),(.cons (.int .i64) (.cons (.int .i64) .nil))]
end Go.Proofs.YtpffkpaiihcffaaGreatDoor
end
section
namespace Go.Proofs.YtpffkpaiihcffaaGreatDoor
open Go Go.Proofs Go.Proofs.YtpffkpaiihcffaaGreatDoor.VM Go.RowKit
theorem rSet_all {w : Nat} {r : List (List FV)} (h : ∀ c ∈ r,c.length = w) {j : Nat} (hj : j < r.length) {vs : List FV} (hv : vs.length = w) : ∃ r',rSet r j 0 vs = some r' ∧ r'.length = r.length ∧ ∀ c ∈ r',c.length = w:=by
 have e : r[j]? = some r[j]:=List.getElem?_eq_getElem hj
 have hl:=h _ (List.getElem_mem hj)
 refine ⟨r.set j (List.take 0 r[j] ++ vs ++ List.drop (0 + vs.length) r[j]),?_,by simp,fun c hc => ?_⟩
 ·unfold rSet
  rw [e,bindO_s,if_pos (by omega)]
 ·rcases List.mem_or_eq_of_mem_set hc with hc | rfl
  ·exact h c hc
  ·simp [hl,hv]
theorem lay_loop {w : Nat} {vs : List FV} (hv : vs.length = w) (f : FV → List (List FV) → R) (g : List (List FV) → R) (res : FV)
  (he : ∀ x r,f x r = bindO (fBin .lss x (.int .i64 ((r.length : Nat) : Int))) fun v12 => fCond v12 (bindO (rIdx r x) fun j13 => bindO (rSet r j13 0 vs) fun r14 => bindO (fBin .add x (.int .i64 1)) fun v15 => f v15 r14) (g r))
  (hg : ∀ r,(∀ c ∈ r,c.length = w) → g r = some res) : ∀ (n k : Nat) (r : List (List FV)),r.length ≤ 1000000 → k + n = r.length → (∀ c ∈ r,c.length = w) → f (.int .i64 (k : Int)) r = some res:=by
 intro n
 induction n with
 | zero =>
  intro k r hb hk hr
  rw [he]
  simp only [fBin_lss,bindO_s,fCond_b]
  rw [if_neg (by rw [decide_eq_true_eq];omega)]
  exact hg r hr
 | succ n ih =>
  intro k r hb hk hr
  have ek : IntKind.i64.wrap ((k : Int) + 1) = ((k + 1 : Nat) : Int):=wrap64 (by omega) (by omega)
  obtain ⟨r',h1,h2,h3⟩:=rSet_all hr (show k < r.length by omega) hv
  rw [he]
  simp only [fBin_lss,bindO_s,fCond_b]
  rw [if_pos (decide_eq_true (by omega)),rIdx_at (by omega),bindO_s,h1,bindO_s,fBin_add,bindO_s,ek]
  exact ih (k + 1) r' (by omega) (by omega) h3
theorem cellF_len3 (c : Cel) : (cellF c).length = 3:=rfl
theorem rows_all {w : Nat} {α : Type} {f : α → List FV} (h : ∀ a,(f a).length = w) (l : List α) : ∀ c ∈ l.map f,c.length = w:=fun c hc => by
 obtain ⟨a,_,rfl⟩:=List.mem_map.1 hc
 exact h a
theorem same_arr (L : List Cel) (hl : L.length ≤ 1000000) : law08_same (.arr (L.map cellF)) (.arr (L.map cellF)) = some (.bool true):=by
 rw [law08_same.eq]
 simp only [fLen_arr,bindO_s,fBin_neq,fCond_b]
 rw [if_neg (by simp)]
 exact same_l0 L hl L 0 rfl
theorem arms (x y : Int) : ∃ r v er,(∀ c ∈ r,c.length = 3) ∧ r.length ≤ 1000000 ∧ ref08_Arm (.int .i64 x) (.int .i64 y) = some (.tup [v,.int .i64 er]) ∧ arm_Arm (.int .i64 x) (.int .i64 y) = some (.tup [.arr r,.int .i64 er]) ∧ law08_same (.arr r) v = some (.bool true):=by
 cases hs : stB x y with
 | false =>
  refine ⟨[],.nilS,81,by simp,by simp,?_,?_,?_⟩
  ·rw [ref08_Arm.eq,stands_d,hs];rfl
  ·rw [arm_Arm.eq,stands_p,hs];rfl
  ·rw [law08_same.eq,law08_same.L0_eq];simp
 | true =>
  have hb:=hs
  simp only [stB,Bool.and_eq_true,decide_eq_true_eq] at hb
  obtain ⟨h,rfl⟩ : ∃ h : Nat,x = h:=⟨x.toNat,by omega⟩
  have hv : ∀ V,upO y = some V → V ≤ 60:=fun V hV => by
   unfold upO at hV
   split at hV
   ·cases hV;omega
   ·cases hV
  have ok:=wiresP_ok h (upO y) (by omega) hv
  have okD : ∀ c ∈ wiresD h (upO y),farC c = false ∧ stateC c.2.2 = true:=fun c hc => ok c ((wires_same h (upO y) c).2 hc)
  have lenP:=wiresP_len h (upO y) (by omega) hv
  have l1:=canonC_len (wiresP h (upO y))
  refine ⟨(canonC (wiresP h (upO y))).map cellF,.arr ((canonC (wiresP h (upO y))).map cellF),0,rows_all cellF_len3 _,by rw [List.length_map];omega,?_,?_,same_arr _ (by omega)⟩
  ·rw [arm_d h y hs]
   unfold canonD
   rw [errC_ok okD,← wires_canon,decide_eq_true (show (canonC (wiresP h (upO y))).length ≤ 65536 by omega)]
   rfl
  ·rw [arm_p h y hs]
   unfold canonD
   rw [errC_ok ok,decide_eq_true (show (canonC (wiresP h (upO y))).length ≤ 65536 by omega)]
   rfl
structure CelIn (x : FV) (l : List Cel) : Prop where
 rows : asRows x = some (l.map cellF)
 len : fLen x = some (.int .i64 (l.length : Int))
 same : l.length ≤ 1000000 → law08_same x (.arr (l.map cellF)) = some (.bool true)
structure MvsIn (x : FV) (ms : List Mv) : Prop where
 rows : asRows x = some (ms.map moveF)
 len : fLen x = some (.int .i64 (ms.length : Int))
 same : ms.length ≤ 1000000 → law08_sameMoves x (.arr (ms.map moveF)) = some (.bool true)
theorem celIn_arr (l : List Cel) : CelIn (.arr (l.map cellF)) l:=⟨rfl,by simp,same_arr l⟩
theorem celIn_nil : CelIn .nilS []:=⟨rfl,rfl,fun _ => by rw [law08_same.eq,law08_same.L0_eq];simp⟩
theorem mvsIn_arr (ms : List Mv) : MvsIn (.arr (ms.map moveF)) ms:=⟨rfl,by simp,fun hl => by
 rw [law08_sameMoves.eq]
 simp only [fLen_arr,bindO_s,fBin_neq,fCond_b]
 rw [if_neg (by simp)]
 exact sameM_l0 ms hl ms 0 rfl⟩
theorem mvsIn_nil : MvsIn .nilS []:=⟨rfl,rfl,fun _ => by rw [law08_sameMoves.eq,law08_sameMoves.L0_eq];simp⟩
theorem outP_rows (l : List Cel) (ms : List Mv) (hn : badC l = 0 → ms.length ≤ 1000000) : ∃ r e,outP l ms = .tup [.arr r,.int .i64 e] ∧ (∀ c ∈ r,c.length = 2) ∧ r.length ≤ 1000000:=by
 unfold outP
 by_cases h : badC l = 0
 ·rw [decide_eq_true h]
  exact ⟨_,_,rfl,rows_all moveF_len _,by rw [List.length_map];exact hn h⟩
 ·rw [decide_eq_false h]
  exact ⟨_,_,rfl,by simp,by simp⟩
theorem length_all {x : FV} {l : List Cel} (hM : arm_Moves x = some (outP l (movP (colsOf l)))) : ∃ a b,arm_Length x = some (.tup [a,b]):=by
 rw [arm_Length.eq,hM]
 unfold outP
 by_cases h : badC l = 0
 ·have hn:=movP_len h
  rw [decide_eq_true h]
  simp only [bindO_s,fIsTup_tup,List.length_cons,List.length_nil,fTup_zero,fTup_succ,Nat.zero_add,Nat.reduceAdd,beq_self_eq_true,gB_t,fBin_neq,fCond_b,arrRows_arr,List.length_map]
  rw [if_neg (by simp)]
  have hq:=length_l0 (movP (colsOf l)) hn (movP (colsOf l)) 0 0 [] rfl (Int.le_refl _) (by simp)
  rw [List.map_nil,show ((0 : Nat) : Int) = 0 from rfl] at hq
  exact ⟨_,_,hq⟩
 ·rw [decide_eq_false h]
  simp only [bindO_s,fIsTup_tup,List.length_cons,List.length_nil,fTup_zero,fTup_succ,Nat.zero_add,Nat.reduceAdd,beq_self_eq_true,gB_t,fBin_neq,fCond_b,arrRows_arr]
  rw [if_pos (by simpa using h)]
  exact ⟨_,_,rfl⟩
theorem train_all {x : FV} {ms : List Mv} (hx : MvsIn x ms) (hl : ms.length ≤ 20) : ∃ a b e,arm_TrainOf x = some (.tup [.agg [a,b],e]):=by
 have e : arm_TrainOf x = trainOv [x]:=(den_eq E 23 _).trans (by kernel_rfl)
 rw [e]
 simp only [trainOv,hx.rows,bindO_s,mvsF_mv,decide_eq_true (show ms.length ≤ 100000 by omega),gB_t,trainA]
 cases ms.all fun m => rgtA m.1 m.2 with
 | false => exact ⟨_,_,_,rfl⟩
 | true =>
  rw [foldT_eq ms [] [] (by simp;omega)]
  exact ⟨_,_,_,rfl⟩
theorem canR_len (L : List Cel) : (canR L).2.length ≤ 65536:=by
 unfold canR
 split
 ·split
  ·assumption
  ·simp
 ·simp
theorem world_all {x y : FV} {ms : List Mv} {l : List Cel} (hx : MvsIn x ms) (hy : CelIn y l) (hl : ms.length ≤ 20) (hk : l.length ≤ 6) : ∃ a b r c e,arm_World x y = some (.tup [a,b,.arr r,c,e]) ∧ (∀ c ∈ r,c.length = 3) ∧ r.length ≤ 1000000:=by
 have e : arm_World x y = worldOw [x,y]:=(den_eq E 26 _).trans (by kernel_rfl)
 rw [e]
 simp only [worldOw,worldOv,hx.rows,hy.rows,bindO_s,mvsF_mv,celsF_cells,decide_eq_true (show ms.length ≤ 100000 ∧ l.length ≤ 100000 by omega),gB_t,worldA,rowsO_out]
 refine ⟨_,_,_,_,_,rfl,rows_all cellF_len3 _,?_⟩
 rw [List.length_map]
 unfold worldR
 split
 ·simp
 ·have:=canR_len (goW ms 2 (-1) (lastC l) 0).2.2.1
  show (canR (goW ms 2 (-1) (lastC l) 0).2.2.1).2.length ≤ 1000000
  omega
theorem keeps_law {x0 x1 : FV} {l : List Cel} {ms : List Mv} (h0 : CelIn x0 l) (h1 : MvsIn x1 ms) (hM : l.length ≤ 6 → arm_Moves x0 = some (outP l (movP (colsOf l)))) (hW : l.length ≤ 6 → arm_Wipe x0 = some (outP l (wipP (colsOf l)))) (a b : Int) :
  law08_ArmKeeps x0 x1 (.agg [.int .i64 a,.int .i64 b]) = some (.bool true):=by
 rw [law08_ArmKeeps.eq]
 simp only [fIsAgg_agg,List.length_cons,List.length_nil,Nat.zero_add,Nat.reduceAdd,beq_self_eq_true,gB_t,h0.len,h1.len,bindO_s,fBin_gtr,fCond_b,awake_true,fCell_zero,fCell_succ]
 by_cases q1 : (6 : Int) < (l.length : Int)
 ·rw [if_pos (decide_eq_true q1)]
 rw [if_neg (by rw [decide_eq_true_eq];exact q1)]
 by_cases q2 : (20 : Int) < (ms.length : Int)
 ·rw [if_pos (decide_eq_true q2)]
 rw [if_neg (by rw [decide_eq_true_eq];exact q2)]
 have hl : l.length ≤ 6:=by omega
 have hm : ms.length ≤ 20:=by omega
 have hM:=hM hl
 have hW:=hW hl
 obtain ⟨r1,e1,m1,m2,m3⟩:=outP_rows l (movP (colsOf l)) fun h => movP_len h
 obtain ⟨r2,e2,w1,w2,w3⟩:=outP_rows l (wipP (colsOf l)) fun h => by
  obtain ⟨g1,g2⟩:=cols_small h
  have:=seqW_len (colsOf l) g2 (colsOf l).length
  rw [wipP,List.length_append,repM_len];omega
 obtain ⟨n1,n2,hL⟩:=length_all hM
 obtain ⟨t1,t2,t3,hT⟩:=train_all h1 hm
 obtain ⟨o1,o2,r3,o3,o4,hO,p2,p3⟩:=world_all h1 h0 hm hl
 obtain ⟨r4,av,ae,a1,a2,a3,a4,a5⟩:=arms a b
 rw [m1] at hM
 rw [w1] at hW
 rw [law08_ArmKeeps.L0_eq]
 have b3 : rowsSz 3 (l.map cellF) = true:=rowsSz_map cellF_len3 l
 have b2 : rowsSz 2 (ms.map moveF) = true:=rowsSz_map moveF_len ms
 have s3 : decide ((l.map cellF).length * 24 ≤ room) = true:=decide_eq_true (by rw [List.length_map];unfold room;omega)
 have s2 : decide ((ms.map moveF).length * 16 ≤ room) = true:=decide_eq_true (by rw [List.length_map];unfold room;omega)
 simp only [h0.rows,h1.rows,bindO_s,b3,b2,s3,s2,gB_t,Nat.zero_add,hM,hW,hL,hT,hO,a4,fIsTup_tup,fIsAgg_agg,List.length_cons,List.length_nil,fTup_zero,fTup_succ,Nat.zero_add,Nat.reduceAdd,beq_self_eq_true,arrRows_arr,List.nil_append]
 have last : ∀ q1 q2 q3 : List (List FV),∀ r : List (List FV),r.length ≤ 1000000 → (∀ c ∈ r,c.length = 3) → law08_ArmKeeps.L4 x0 x1 (.int .i64 0) (.int .i64 a) (.int .i64 b) (l.map cellF) (ms.map moveF) q1 q2 q3 r = some (.bool true):=fun q1 q2 q3 r hr hc =>
  lay_loop (w:=3) (vs:=[.int .i64 1,.int .i64 2,.int .i64 3]) rfl (fun x r => law08_ArmKeeps.L4 x0 x1 x (.int .i64 a) (.int .i64 b) (l.map cellF) (ms.map moveF) q1 q2 q3 r) _ _ (fun x r => law08_ArmKeeps.L4_eq _ _ _ _ _ _ _ _ _ _ _)
   (fun r hr => by
    simp only [a3,a4,a5,bindO_s,fIsTup_tup,List.length_cons,List.length_nil,fTup_zero,fTup_succ,Nat.zero_add,Nat.reduceAdd,beq_self_eq_true,gB_t,arrRows_arr,h0.same (by omega),h1.same (by omega),fCond_b,awake_true,if_true]) r.length 0 r hr (by omega) hc
 have l3 : ∀ q1 q2 : List (List FV),∀ r : List (List FV),r.length ≤ 1000000 → (∀ c ∈ r,c.length = 3) → law08_ArmKeeps.L3 x0 x1 (.int .i64 0) (.int .i64 a) (.int .i64 b) (l.map cellF) (ms.map moveF) q1 q2 r r4 = some (.bool true):=fun q1 q2 r hr hc =>
  lay_loop (w:=3) (vs:=[.int .i64 1,.int .i64 2,.int .i64 3]) rfl (fun x r => law08_ArmKeeps.L3 x0 x1 x (.int .i64 a) (.int .i64 b) (l.map cellF) (ms.map moveF) q1 q2 r r4) _ _ (fun x r => law08_ArmKeeps.L3_eq _ _ _ _ _ _ _ _ _ _ _)
   (fun r hr => last q1 q2 r r4 a2 a1) r.length 0 r hr (by omega) hc
 have l2 : ∀ q1 : List (List FV),∀ r : List (List FV),r.length ≤ 1000000 → (∀ c ∈ r,c.length = 2) → law08_ArmKeeps.L2 x0 x1 (.int .i64 0) (.int .i64 a) (.int .i64 b) (l.map cellF) (ms.map moveF) q1 r r3 r4 = some (.bool true):=fun q1 r hr hc =>
  lay_loop (w:=2) (vs:=[.int .i64 99,.int .i64 0]) rfl (fun x r => law08_ArmKeeps.L2 x0 x1 x (.int .i64 a) (.int .i64 b) (l.map cellF) (ms.map moveF) q1 r r3 r4) _ _ (fun x r => law08_ArmKeeps.L2_eq _ _ _ _ _ _ _ _ _ _ _)
   (fun r hr => l3 q1 r r3 p3 p2) r.length 0 r hr (by omega) hc
 exact lay_loop (w:=2) (vs:=[.int .i64 99,.int .i64 0]) rfl (fun x r => law08_ArmKeeps.L1 x0 x1 x (.int .i64 a) (.int .i64 b) (l.map cellF) (ms.map moveF) r r2 r3 r4) _ _ (fun x r => law08_ArmKeeps.L1_eq _ _ _ _ _ _ _ _ _ _ _)
   (fun r hr => l2 r r2 w3 w2) r1.length 0 r1 m3 (by omega) m2
theorem nil_moves : callF E 400 18 [.nilS] = some (outP [] (movP (colsOf []))):=by kernel_rfl
theorem nil_wipe : callF E 400 19 [.nilS] = some (outP [] (wipP (colsOf []))):=by kernel_rfl
abbrev T3 : TC:=.cons (.int .i64) (.cons (.int .i64) (.cons (.int .i64) .nil))
abbrev T2 : TC:=.cons (.int .i64) (.cons (.int .i64) .nil)
def toC : List (Val T3) → List Cel
 | [] => []
 | v :: l => (v.1,v.2.1,v.2.2.1) :: toC l
theorem toC_cells : ∀ l : List (Val T3),l.map (cells T3) = (toC l).map cellF
 | [] => rfl
 | v :: l => by
  show cells T3 v :: l.map (cells T3) = cellF (v.1,v.2.1,v.2.2.1) :: (toC l).map cellF
  rw [toC_cells l]
  rfl
def toM : List (Val T2) → List Mv
 | [] => []
 | v :: l => (v.1,v.2.1) :: toM l
theorem toM_cells : ∀ l : List (Val T2),l.map (cells T2) = (toM l).map moveF
 | [] => rfl
 | v :: l => by
  show cells T2 v :: l.map (cells T2) = moveF (v.1,v.2.1) :: (toM l).map moveF
  rw [toM_cells l]
  rfl
theorem armKeeps_pure (x : Vals tcsArmKeeps) (h : wfs tcsArmKeeps x) : den E 7 (argsF tcsArmKeeps x) = some (.bool true):=by
 obtain ⟨o,o2,⟨a,b,_⟩,u⟩:=x
 have h1 : ∃ x0 l,argF (.sl 24 T3) o = x0 ∧ CelIn x0 l ∧ (l.length ≤ 6 → arm_Moves x0 = some (outP l (movP (colsOf l)))) ∧ (l.length ≤ 6 → arm_Wipe x0 = some (outP l (wipP (colsOf l)))):=by
  cases o with
  | none => exact ⟨.nilS,[],rfl,celIn_nil,fun _ => (den_cv E 18 _).of 400 _ nil_moves,fun _ => (den_cv E 19 _).of 400 _ nil_wipe⟩
  | some l =>
   refine ⟨.arr ((toC l).map cellF),toC l,?_,celIn_arr _,fun h => moves_p _ (by omega),fun h => wipe_p _ (by omega)⟩
   rw [← toC_cells];rfl
 have h2 : ∃ x1 ms,argF (.sl 16 T2) o2 = x1 ∧ MvsIn x1 ms:=by
  cases o2 with
  | none => exact ⟨.nilS,[],rfl,mvsIn_nil⟩
  | some l =>
   refine ⟨.arr ((toM l).map moveF),toM l,?_,mvsIn_arr _⟩
   rw [← toM_cells];rfl
 obtain ⟨x0,l,e0,c0,cm,cw⟩:=h1
 obtain ⟨x1,ms,e1,c1⟩:=h2
 have:=keeps_law c0 c1 cm cw a b
 rw [← e0,← e1] at this
 exact this
end Go.Proofs.YtpffkpaiihcffaaGreatDoor
end
