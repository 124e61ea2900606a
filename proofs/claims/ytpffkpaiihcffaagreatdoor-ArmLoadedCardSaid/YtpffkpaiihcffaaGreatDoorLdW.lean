/- Steps of the proof: The codes of the types of the law ArmLoaded's parameters; The codes of the types of the law ArmStands's parameters; The document's Canon (rametref01), the law's comparison of lists; The document's Canon; the law's comparison; both arms; Both arms, both After, the law ArmStands; Both After; the law ArmStands; The law ArmStands; Trains of digits; both Loaded; the law ArmLoaded. -/
import Derived.Test.YtpffkpaiihcffaaGreatDoorEnv
import Derived.Test.YtpffkpaiihcffaaGreatDoorRow
import Derived.Test.YtpffkpaiihcffaaGreatDoorCode0
import Derived.Test.YtpffkpaiihcffaaGreatDoorKit
import Derived.Test.YtpffkpaiihcffaaGreatDoorCel
import Derived.Test.YtpffkpaiihcffaaGreatDoorOvk
set_option linter.unusedVariables false
set_option linter.unusedSimpArgs false
section
namespace Go.Proofs.YtpffkpaiihcffaaGreatDoor
open Go Go.Proofs.YtpffkpaiihcffaaGreatDoor.VM
abbrev tcsArmLoaded : List TC:=[(.cons .str (.cons .str .nil)),(.int .i64),(.int .i64)]
end Go.Proofs.YtpffkpaiihcffaaGreatDoor
end
section
namespace Go.Proofs.YtpffkpaiihcffaaGreatDoor
open Go Go.Proofs.YtpffkpaiihcffaaGreatDoor.VM
end Go.Proofs.YtpffkpaiihcffaaGreatDoor
end
section
namespace Go.Proofs.YtpffkpaiihcffaaGreatDoor
open Go Go.Proofs Go.Proofs.YtpffkpaiihcffaaGreatDoor.VM Go.RowKit
def stB (x y : Int) : Bool:=decide (2 ≤ x) && (decide (x ≤ 60) && (decide (-1 ≤ y) && decide (y ≤ 60)))
theorem stands_d (x y : Int) : ref08_stands (.int .i64 x) (.int .i64 y) = some (.bool (stB x y)):=by
 rw [ref08_stands.eq]
 simp only [fBin_geq,fBin_leq,bindO_s,fCond_b,stB]
 by_cases h1 : 2 ≤ x <;> by_cases h2 : x ≤ 60 <;> by_cases h3 : -1 ≤ y <;> simp [h1,h2,h3]
theorem stands_p (x y : Int) : arm_stands (.int .i64 x) (.int .i64 y) = some (.bool (stB x y)):=by
 rw [arm_stands.eq]
 simp only [fBin_geq,fBin_leq,bindO_s,fCond_b,stB]
 by_cases h1 : 2 ≤ x <;> by_cases h2 : x ≤ 60 <;> by_cases h3 : -1 ≤ y <;> simp [h1,h2,h3]
theorem near_d (c : Cel) : ref01_near (.int .i64 c.1) (.int .i64 c.2.1) = some (.bool (!farC c)):=by
 rw [ref01_near.eq]
 simp only [fBin_geq,fBin_leq,bindO_s,fCond_b,farC]
 by_cases h1 : -1073741824 ≤ c.1 <;> by_cases h2 : c.1 ≤ 1073741824 <;> by_cases h3 : -1073741824 ≤ c.2.1 <;> by_cases h4 : c.2.1 ≤ 1073741824 <;> simp [h1,h2,h3,h4] <;> omega
theorem check_d (x : FV) : ref01_Check (.agg [.int .i64 0,x]) = some (.int .i64 0):=by
 rw [ref01_Check.eq]
 simp [ref01_Check.L0_eq]
theorem states_d (x : FV) : ref01_States (.agg [.int .i64 0,x]) = some (.int .i64 29):=by
 rw [ref01_States.eq]
 simp [check_d]
theorem isState_d (x : FV) (s : Int) : ref01_isState (.agg [.int .i64 0,x]) (.int .i64 s) = some (.bool (stateC s)):=by
 rw [ref01_isState.eq]
 simp only [fIsAgg_agg,List.length_cons,List.length_nil,fCell_zero,fCell_succ,fBin_eql,fBin_geq,bindO_s,fCond_b,states_d,fBin_lss,stateC]
 by_cases h : 0 ≤ s <;> simp [h]
theorem behind_d (a b : Cel) : ref01_behind (.agg (cellF a)) (.agg (cellF b)) = some (.bool (befC b a)):=by
 rw [ref01_behind.eq]
 simp only [cellF,fIsAgg_agg,List.length_cons,List.length_nil,fCell_zero,fCell_succ,fBin_gtr,fBin_eql,bindO_s,fCond_b,befC]
 by_cases h1 : b.2.1 < a.2.1
 ·simp [h1]
 ·by_cases h2 : b.2.1 = a.2.1
  ·simp [h1,h2]
  ·simp [h1,h2,Ne.symm h2]
theorem cellF_len' (c : Cel) : (cellF c).length = 3:=rfl
theorem rows3 (l : List Cel) : rowsSz 3 (l.map cellF) = true:=rowsSz_map cellF_len' l
theorem idxC {l : List Cel} {k : Nat} {c : Cel} (h : l[k]? = some c) : fIdxC 3 (.arr (l.map cellF)) (.int .i64 (k : Int)) = some (cellF c):=idx_arr (by rw [List.getElem?_map,h];rfl) rfl
theorem roomC {n : Nat} (h : n ≤ 1000000) : decide (n * 24 ≤ room) = true:=decide_eq_true (by unfold room;omega)
theorem merge_l0 (a b : List Cel) (ha : a.length + b.length ≤ 1000000) : ∀ (n i j : Nat) (acc : List Cel),(a.length - i) + (b.length - j) = n → acc.length + n ≤ 1000000 → i ≤ a.length → j ≤ b.length →
  ref01_sorted.L0 (.arr (a.map cellF)) (.arr (b.map cellF)) (.int .i64 (i : Int)) (.int .i64 (j : Int)) (acc.map cellF) = some (.arr ((acc ++ mergeC (a.drop i) (b.drop j)).map cellF)):=by
 intro n
 induction n with
 | zero =>
  intro i j acc hn hacc hi hj
  rw [ref01_sorted.L0_eq]
  simp only [fLen_arr,List.length_map,bindO_s,fBin_lss,fCond_b]
  rw [if_neg (by simp;omega),if_neg (by simp;omega),List.drop_of_length_le (by omega),List.drop_of_length_le (by omega)]
  simp [mergeC]
 | succ n ih =>
  intro i j acc hn hacc hi hj
  have e1 : ∀ c : Cel,acc.map cellF ++ [[FV.int .i64 c.1,.int .i64 c.2.1,.int .i64 c.2.2]] = (acc ++ [c]).map cellF:=fun c => by simp [cellF]
  have ei : IntKind.i64.wrap ((i : Int) + 1) = ((i + 1 : Nat) : Int):=wrap64 (by omega) (by omega)
  have ej : IntKind.i64.wrap ((j : Int) + 1) = ((j + 1 : Nat) : Int):=wrap64 (by omega) (by omega)
  have hroom : decide ((acc.length + 1) * 24 ≤ room) = true:=roomC (by omega)
  have go1 : ref01_sorted.L0 (.arr (a.map cellF)) (.arr (b.map cellF)) (.int .i64 (i : Int)) (.int .i64 (j : Int)) (acc.map cellF) = ref01_sorted.L1 (.arr (a.map cellF)) (.arr (b.map cellF)) (.int .i64 (i : Int)) (.int .i64 (j : Int)) (acc.map cellF):=by
   rw [ref01_sorted.L0_eq]
   simp only [fLen_arr,List.length_map,bindO_s,fBin_lss,fCond_b]
   by_cases h1 : i < a.length
   ·rw [if_pos (by simp;omega)]
   ·rw [if_neg (by simp;omega),if_pos (by simp;omega)]
  rw [go1,ref01_sorted.L1_eq]
  simp only [fLen_arr,List.length_map,bindO_s,fBin_lss,fBin_eql,fCond_b]
  by_cases h2 : j = b.length
  ·obtain ⟨x,hx⟩ : ∃ x,a[i]? = some x:=⟨_,List.getElem?_eq_getElem (by omega)⟩
   rw [if_pos (by simp;omega),idxC hx]
   simp only [bindO_s,cellF,List.getElem?_cons_zero,List.getElem?_cons_succ]
   rw [hroom,gB_t,fBin_add,bindO_s,ei,e1 x]
   rw [ih (i + 1) j (acc ++ [x]) (by omega) (by simp;omega) (by omega) hj]
   rw [List.drop_eq_getElem_cons (show i < a.length by omega),List.drop_of_length_le (l:=b) (by omega)]
   have hxx : a[i] = x:=by rw [List.getElem?_eq_getElem (by omega)] at hx;exact Option.some.inj hx
   rw [hxx,mergeC_nil,mergeC_nil]
   simp
  ·obtain ⟨y,hy⟩ : ∃ y,b[j]? = some y:=⟨_,List.getElem?_eq_getElem (by omega)⟩
   have hyy : b[j]'(by omega) = y:=by rw [List.getElem?_eq_getElem (by omega)] at hy;exact Option.some.inj hy
   rw [if_neg (by simp;omega)]
   by_cases h3 : i < a.length
   ·obtain ⟨x,hx⟩ : ∃ x,a[i]? = some x:=⟨_,List.getElem?_eq_getElem h3⟩
    have hxx : a[i] = x:=by rw [List.getElem?_eq_getElem (by omega)] at hx;exact Option.some.inj hx
    have hb:=behind_d x y
    rw [if_pos (by simp;omega),idxC hx,idxC hy]
    simp only [bindO_s,cellF,List.getElem?_cons_zero,List.getElem?_cons_succ]
    simp only [cellF] at hb
    rw [hb]
    simp only [bindO_s,fUn_not,fCond_b]
    cases hbf : befC y x with
    | true =>
     rw [if_neg (by simp),hroom,gB_t,fBin_add,bindO_s,ej,e1 y]
     rw [ih i (j + 1) (acc ++ [y]) (by omega) (by simp;omega) hi (by omega)]
     rw [List.drop_eq_getElem_cons h3,List.drop_eq_getElem_cons (show j < b.length by omega),hxx,hyy]
     simp [mergeC,hbf]
    | false =>
     rw [if_pos (by simp),hroom,gB_t,fBin_add,bindO_s,ei,e1 x]
     rw [ih (i + 1) j (acc ++ [x]) (by omega) (by simp;omega) (by omega) hj]
     rw [List.drop_eq_getElem_cons h3,List.drop_eq_getElem_cons (show j < b.length by omega),hxx,hyy]
     simp [mergeC,hbf]
   ·rw [if_neg (by simp;omega),idxC hy]
    simp only [bindO_s,cellF,List.getElem?_cons_zero,List.getElem?_cons_succ]
    rw [hroom,gB_t,fBin_add,bindO_s,ej,e1 y]
    rw [ih i (j + 1) (acc ++ [y]) (by omega) (by simp;omega) hi (by omega)]
    rw [List.drop_of_length_le (l:=a) (by omega),List.drop_eq_getElem_cons (show j < b.length by omega),hyy]
    simp [mergeC]
theorem sorted_d : ∀ (n : Nat) (l : List Cel),l.length ≤ n → l.length ≤ 1000000 → ∃ s,Srt l s ∧ ref01_sorted (.arr (l.map cellF)) = some (.arr (s.map cellF)):=by
 intro n
 induction n with
 | zero =>
  intro l h _
  obtain rfl : l = []:=List.length_eq_zero_iff.1 (by omega)
  refine ⟨[],Srt.small (by simp),?_⟩
  rw [ref01_sorted.eq]
  simp [room]
 | succ n ih =>
  intro l h hn
  rw [ref01_sorted.eq]
  simp only [fLen_arr,List.length_map,bindO_s,fBin_lss,fCond_b]
  by_cases h2 : l.length < 2
  ·refine ⟨l,Srt.small h2,?_⟩
   rw [if_pos (by simp;omega)]
   simp only [asRows_arr,bindO_s,rows3,gB_t,List.length_map,Nat.zero_add]
   rw [roomC hn]
   simp
  ·rw [if_neg (by simp;omega)]
   have eq2 : fBin .quo (.int .i64 (l.length : Int)) (.int .i64 2) = some (.int .i64 ((l.length / 2 : Nat) : Int)):=by
    rw [fBin_quo,if_neg (by decide)]
    congr 2
    rw [show ((l.length : Int)).tdiv 2 = ((l.length / 2 : Nat) : Int) from rfl]
    exact wrap64 (by omega) (by omega)
   rw [eq2]
   simp only [bindO_s]
   rw [fCut_take (rows3 l) (by rw [List.length_map];omega),fCut_drop (rows3 l) (by rw [List.length_map];omega)]
   simp only [bindO_s]
   rw [← List.map_take,← List.map_drop]
   obtain ⟨s,hs,e1⟩:=ih (l.take (l.length / 2)) (by simp;omega) (by simp;omega)
   obtain ⟨t,ht,e2⟩:=ih (l.drop (l.length / 2)) (by simp;omega) (by simp;omega)
   rw [e1,e2]
   simp only [bindO_s]
   have hl1:=hs.len
   have hl2:=ht.len
   simp only [List.length_take,List.length_drop] at hl1 hl2
   refine ⟨mergeC s t,by have:=hs.merge ht;rwa [List.take_append_drop] at this,?_⟩
   have:=merge_l0 s t (by omega) (s.length + t.length) 0 0 [] (by omega) (by simp;omega) (by omega) (by omega)
   simpa using this
end Go.Proofs.YtpffkpaiihcffaaGreatDoor
end
section
namespace Go.Proofs.YtpffkpaiihcffaaGreatDoor
open Go Go.Proofs Go.Proofs.YtpffkpaiihcffaaGreatDoor.VM Go.RowKit
theorem canon_l1 (s : List Cel) (hs : s.length ≤ 1000000) (x0 x : FV) : ∀ (n k : Nat) (acc : List Cel),s.length - k = n → acc.length + n ≤ 1000000 → k ≤ s.length →
  ref01_Canon.L1 (.arr (s.map cellF)) (.int .i64 (k : Int)) x0 x (acc.map cellF) =
   (match decide ((acc ++ lastsW (s.drop k)).length ≤ 65536) with | true => some (.tup [.arr ((acc ++ lastsW (s.drop k)).map cellF),.int .i64 0]) | false => some (.tup [.nilS,.int .i64 14])):=by
 intro n
 induction n with
 | zero =>
  intro k acc hn hacc hk
  rw [ref01_Canon.L1_eq]
  simp only [fLen_arr,List.length_map,bindO_s,fBin_lss,fCond_b,fBin_gtr]
  rw [if_neg (by simp;omega),List.drop_of_length_le (by omega)]
  simp only [lastsW,List.append_nil]
  by_cases h : acc.length ≤ 65536
  ·rw [if_neg (by simp;omega)];simp [h]
  ·rw [if_pos (by simp;omega)];simp [h]
 | succ n ih =>
  intro k acc hn hacc hk
  obtain ⟨c,hc⟩ : ∃ c,s[k]? = some c:=⟨_,List.getElem?_eq_getElem (by omega)⟩
  have hcc : s[k]'(by omega) = c:=by rw [List.getElem?_eq_getElem (by omega)] at hc;exact Option.some.inj hc
  have e1 : ∀ c : Cel,acc.map cellF ++ [[FV.int .i64 c.1,.int .i64 c.2.1,.int .i64 c.2.2]] = (acc ++ [c]).map cellF:=fun c => by simp [cellF]
  have ek : IntKind.i64.wrap ((k : Int) + 1) = ((k + 1 : Nat) : Int):=wrap64 (by omega) (by omega)
  have hroom : decide ((acc.length + 1) * 24 ≤ room) = true:=roomC (by omega)
  have hd : s.drop k = c :: s.drop (k + 1):=by rw [List.drop_eq_getElem_cons (by omega),hcc]
  have ih0:=ih (k + 1) acc (by omega) (by omega) (by omega)
  have ih1:=ih (k + 1) (acc ++ [c]) (by omega) (by simp;omega) (by omega)
  rw [ref01_Canon.L1_eq]
  simp only [fLen_arr,List.length_map,bindO_s,fBin_lss,fBin_add,fBin_eql,fCond_b,ek]
  rw [if_pos (by simp;omega),idxC hc]
  simp only [bindO_s,cellF,List.getElem?_cons_zero,List.getElem?_cons_succ,fBin_neq,fCond_b]
  have e1c:=e1 c
  rw [hroom]
  simp only [gB_t,e1c]
  by_cases hl : k + 1 = s.length
  ·rw [if_pos (by simp;omega)]
   have hdd : s.drop (k + 1) = []:=List.drop_of_length_le (by omega)
   have hlw : lastsW (s.drop k) = (match nzC c with | true => [c] | false => []):=by rw [hd,hdd];rfl
   rw [hlw]
   rw [hdd] at ih0 ih1
   simp only [lastsW,List.append_nil] at ih0 ih1
   by_cases hz : c.2.2 = 0
   ·rw [if_neg (by simp [hz]),ih0]
    have hnz : nzC c = false:=by simp [nzC,hz]
    simp [hnz]
   ·rw [if_pos (by simp [hz]),ih1]
    have hnz : nzC c = true:=by simp [nzC,hz]
    simp [hnz]
  ·obtain ⟨d,hdx⟩ : ∃ d,s[k + 1]? = some d:=⟨_,List.getElem?_eq_getElem (by omega)⟩
   have hddd : s[k + 1]'(by omega) = d:=by rw [List.getElem?_eq_getElem (by omega)] at hdx;exact Option.some.inj hdx
   have hd2 : s.drop (k + 1) = d :: s.drop (k + 2):=by rw [List.drop_eq_getElem_cons (by omega),hddd]
   rw [if_neg (by simp;omega),idxC hdx]
   simp only [bindO_s,cellF,List.getElem?_cons_zero,List.getElem?_cons_succ,fBin_neq,fCond_b]
   have hlw : lastsW (s.drop k) = (match smC d c with | true => lastsW (s.drop (k + 1)) | false => (match nzC c with | true => c :: lastsW (s.drop (k + 1)) | false => lastsW (s.drop (k + 1)))):=by rw [hd,hd2];rfl
   have hout : smC d c = false → (if decide (c.2.2 ≠ 0) = true then ref01_Canon.L1 (.arr (s.map cellF)) (.int .i64 ((k + 1 : Nat) : Int)) x0 x ((acc ++ [c]).map cellF) else ref01_Canon.L1 (.arr (s.map cellF)) (.int .i64 ((k + 1 : Nat) : Int)) x0 x (acc.map cellF)) =
     (match decide ((acc ++ lastsW (s.drop k)).length ≤ 65536) with | true => some (.tup [.arr ((acc ++ lastsW (s.drop k)).map cellF),.int .i64 0]) | false => some (.tup [.nilS,.int .i64 14])):=fun hsm => by
    rw [hlw,hsm]
    by_cases hz : c.2.2 = 0
    ·rw [if_neg (by simp [hz]),ih0]
     have hnz : nzC c = false:=by simp [nzC,hz]
     simp [hnz]
    ·rw [if_pos (by simp [hz]),ih1]
     have hnz : nzC c = true:=by simp [nzC,hz]
     simp [hnz]
   by_cases h0 : d.1 = c.1
   ·rw [if_neg (by simp [h0])]
    by_cases h1 : d.2.1 = c.2.1
    ·rw [if_neg (by simp [h1])]
     have hsm : smC d c = true:=by simp [smC,h0,h1]
     rw [hlw,hsm]
     exact ih0
    ·rw [if_pos (by simp [h1])]
     exact hout (by simp [smC,h1])
   ·rw [if_pos (by simp [h0])]
    exact hout (by simp [smC,h0])
theorem canon_l0 (l : List Cel) (hl : l.length ≤ 1000000) (x : FV) : ∀ (s : List Cel) (k : Nat),l.drop k = s →
  ref01_Canon.L0 (.arr (l.map cellF)) (.int .i64 (k : Int)) (.int .i64 0) x =
   (match decide (errC s = 0) with | false => some (.tup [.nilS,.int .i64 (errC s)]) | true => (match decide ((canonC l).length ≤ 65536) with | true => some (.tup [.arr ((canonC l).map cellF),.int .i64 0]) | false => some (.tup [.nilS,.int .i64 14]))):=by
 intro s
 induction s with
 | nil =>
  intro k hd
  have hk:=drop_nil hd
  rw [ref01_Canon.L0_eq]
  simp only [fLen_arr,List.length_map,bindO_s,fBin_lss,fCond_b]
  rw [if_neg (by simp;omega)]
  obtain ⟨t,ht,e⟩:=sorted_d _ l (Nat.le_refl _) hl
  rw [e,bindO_s]
  have:=canon_l1 t (by rw [ht.len];exact hl) (.int .i64 0) x t.length 0 [] (by omega) (by simp;rw [ht.len];exact hl) (by omega)
  simp only [List.map_nil,List.nil_append,List.drop_zero,ht.canon] at this
  have this' : ref01_Canon.L1 (.arr (t.map cellF)) (.int .i64 0) (.int .i64 0) x [] = _:=this
  rw [this']
  rfl
 | cons c s ih =>
  intro k hd
  obtain ⟨hk,hc,hs⟩:=drop_cons hd
  have ek : IntKind.i64.wrap ((k : Int) + 1) = ((k + 1 : Nat) : Int):=wrap64 (by omega) (by omega)
  have ih':=ih (k + 1) hs
  rw [ref01_Canon.L0_eq]
  simp only [fLen_arr,List.length_map,bindO_s,fBin_lss,fCond_b]
  rw [if_pos (by simp;omega),idxC hc]
  simp only [bindO_s,cellF,List.getElem?_cons_zero,List.getElem?_cons_succ,near_d,fUn_not,fCond_b,isState_d,fBin_add,ek]
  rw [ih']
  cases hf : farC c with
  | true => simp [errC,hf]
  | false =>
   cases hst : stateC c.2.2 with
   | false => simp [errC,hf,hst]
   | true => simp [errC,hf,hst]
def canonD (cs : List Cel) : FV:=match decide (errC cs = 0) with
 | false => .tup [.nilS,.int .i64 (errC cs)]
 | true => match decide ((canonC cs).length ≤ 65536) with
  | true => .tup [.arr ((canonC cs).map cellF),.int .i64 0]
  | false => .tup [.nilS,.int .i64 14]
theorem canon_d (l : List Cel) (hl : l.length ≤ 1000000) (x : FV) : ref01_Canon (.agg [.int .i64 0,x]) (.arr (l.map cellF)) = some (canonD l):=by
 rw [ref01_Canon.eq]
 simp only [fIsAgg_agg,List.length_cons,List.length_nil,fCell_zero,fCell_succ,check_d,bindO_s,fBin_neq,fCond_b]
 have h:=canon_l0 l hl x l 0 rfl
 rw [show ((0 : Nat) : Int) = 0 from rfl] at h
 rw [h]
 unfold canonD
 cases decide (errC l = 0) with
 | false => rfl
 | true => cases decide ((canonC l).length ≤ 65536) <;> rfl
theorem celsF_cells : ∀ l : List Cel,celsF (l.map cellF) = some l
 | [] => rfl
 | c :: l => by simp [celsF,celF,cellF,celsF_cells l]
theorem canon_p (l : List Cel) (hl : l.length ≤ 1000000) (x : FV) : cells_Canon (.agg [.int .i64 0,x]) (.arr (l.map cellF)) = some (canonA l):=by
 have e : cells_Canon (.agg [.int .i64 0,x]) (.arr (l.map cellF)) = canonOv [.agg [.int .i64 0,x],.arr (l.map cellF)]:=(den_eq E 35 _).trans (by kernel_rfl)
 rw [e]
 simp only [canonOv,asRows_arr,bindO_s,celsF_cells,decide_eq_true hl,gB_t]
theorem same_l0 (l : List Cel) (hl : l.length ≤ 1000000) : ∀ (s : List Cel) (k : Nat),l.drop k = s → law08_same.L0 (.arr (l.map cellF)) (.arr (l.map cellF)) (.int .i64 (k : Int)) = some (.bool true):=by
 intro s
 induction s with
 | nil =>
  intro k hd
  have hk:=drop_nil hd
  rw [law08_same.L0_eq]
  simp only [fLen_arr,List.length_map,bindO_s,fBin_lss,fCond_b]
  rw [if_neg (by simp;omega)]
 | cons c s ih =>
  intro k hd
  obtain ⟨hk,hc,hs⟩:=drop_cons hd
  have ek : IntKind.i64.wrap ((k : Int) + 1) = ((k + 1 : Nat) : Int):=wrap64 (by omega) (by omega)
  rw [law08_same.L0_eq]
  simp only [fLen_arr,List.length_map,bindO_s,fBin_lss,fCond_b]
  rw [if_pos (by simp;omega),idxC hc]
  simp only [bindO_s,cellF,List.getElem?_cons_zero,List.getElem?_cons_succ,fBin_add,ek]
  have hagg : fAggBin [.int,.int,.int] .neq [FV.int .i64 c.1,.int .i64 c.2.1,.int .i64 c.2.2] [FV.int .i64 c.1,.int .i64 c.2.1,.int .i64 c.2.2] = some (.bool false):=by simp [fAggBin,cellsEq,scalarEq]
  rw [hagg]
  simp only [bindO_s,fCond_b]
  rw [if_neg (by simp)]
  exact ih (k + 1) hs
end Go.Proofs.YtpffkpaiihcffaaGreatDoor
end
section
namespace Go.Proofs.YtpffkpaiihcffaaGreatDoor
open Go Go.Proofs Go.Proofs.YtpffkpaiihcffaaGreatDoor.VM Go.RowKit
theorem snocF (acc : List Cel) (a b s : Int) : acc.map cellF ++ [[FV.int .i64 a,.int .i64 b,.int .i64 s]] = (acc ++ [(a,b,s)]).map cellF:=by simp [cellF]
theorem snocF2 (acc : List Cel) (a b s a' b' s' : Int) : acc.map cellF ++ [[FV.int .i64 a,.int .i64 b,.int .i64 s],[FV.int .i64 a',.int .i64 b',.int .i64 s']] = (acc ++ [(a,b,s),(a',b',s')]).map cellF:=by simp [cellF]
theorem rowA_succ (k : Nat) : rowA (k + 1) = rowA k ++ [((k : Int),0,9)]:=by simp [rowA,List.range_succ]
theorem rowB_succ (k : Nat) : rowB (k + 1) = rowB k ++ [((k : Int),1,17)]:=by simp [rowB,List.range_succ]
theorem rowD_succ (k : Nat) : rowD (k + 1) = rowD k ++ [((k : Int),0,9),((k : Int),1,17)]:=by simp [rowD,List.range_succ]
theorem upD_succ (h : Int) (k : Nat) : upD h (k + 1) = upD h k ++ [(h + 1,-(k : Int),10),(h + 2,-(k : Int),18)]:=by simp [upD,List.range_succ]
def upT (h : Int) (V n : Nat) : List Cel:=(List.range n).flatMap fun (i : Nat) => (if (i : Int) - V ≤ 0 then [(h + 1,(i : Int) - V,10)] else []) ++ [(h + 2,(i : Int) - V,18)]
theorem upT_succ (h : Int) (V n : Nat) : upT h V (n + 1) = upT h V n ++ ((if (n : Int) - V ≤ 0 then [(h + 1,(n : Int) - V,10)] else []) ++ [(h + 2,(n : Int) - V,18)]):=by simp [upT,List.range_succ]
theorem rowA_len (n : Nat) : (rowA n).length = n:=by simp [rowA]
theorem rowB_len (n : Nat) : (rowB n).length = n:=by simp [rowB]
theorem rowD_len : ∀ n : Nat,(rowD n).length = 2 * n
 | 0 => rfl
 | n + 1 => by rw [rowD_succ,List.length_append,rowD_len n];simp;omega
theorem upD_len (h : Int) : ∀ n : Nat,(upD h n).length = 2 * n
 | 0 => rfl
 | n + 1 => by rw [upD_succ,List.length_append,upD_len h n];simp;omega
theorem upT_len (h : Int) (V : Nat) : ∀ n : Nat,(upT h V n).length ≤ 2 * n
 | 0 => by simp [upT]
 | n + 1 => by
  have:=upT_len h V n
  rw [upT_succ,List.length_append,List.length_append]
  split <;> simp <;> omega
theorem wires_l4 (N : Nat) (hN : N ≤ 100) (acc : List Cel) (ha : acc.length ≤ 10000) : ∀ (n k : Nat),k + n = N → arm_wires.L4 (.int .i64 ((N : Int) - 1)) (.int .i64 (k : Int)) ((acc ++ rowB k).map cellF) = some (.arr ((acc ++ rowB N).map cellF)):=by
 intro n
 induction n with
 | zero =>
  intro k hk
  obtain rfl : k = N:=by omega
  rw [arm_wires.L4_eq]
  simp only [fBin_leq,bindO_s,fCond_b]
  rw [if_neg (by simp;omega)]
 | succ n ih =>
  intro k hk
  have ek : IntKind.i64.wrap ((k : Int) + 1) = ((k + 1 : Nat) : Int):=wrap64 (by omega) (by omega)
  rw [arm_wires.L4_eq]
  simp only [fBin_leq,bindO_s,fCond_b,fBin_add,ek]
  rw [if_pos (by simp;omega),List.length_map,roomC (by simp only [List.length_append,rowB_len];omega),gB_t,snocF,List.append_assoc,← rowB_succ]
  exact ih (k + 1) (by omega)
theorem wires_l3 (h : Nat) (hh : h ≤ 100) (x1 : FV) (acc : List Cel) (ha : acc.length ≤ 10000) : ∀ (n k : Nat),k + n = h + 1 → arm_wires.L3 (.int .i64 (h : Int)) x1 (.int .i64 (k : Int)) ((acc ++ rowA k).map cellF) = arm_wires.L4 x1 (.int .i64 0) ((acc ++ rowA (h + 1)).map cellF):=by
 intro n
 induction n with
 | zero =>
  intro k hk
  obtain rfl : k = h + 1:=by omega
  rw [arm_wires.L3_eq]
  simp only [fBin_leq,bindO_s,fCond_b]
  rw [if_neg (by simp;omega)]
 | succ n ih =>
  intro k hk
  have ek : IntKind.i64.wrap ((k : Int) + 1) = ((k + 1 : Nat) : Int):=wrap64 (by omega) (by omega)
  rw [arm_wires.L3_eq]
  simp only [fBin_leq,bindO_s,fCond_b,fBin_add,ek]
  rw [if_pos (by simp;omega),List.length_map,roomC (by simp only [List.length_append,rowA_len];omega),gB_t,snocF,List.append_assoc,← rowA_succ]
  exact ih (k + 1) (by omega)
theorem wires_l0 (h N : Nat) (hh : h ≤ 60) (hN : N ≤ 100) (acc : List Cel) (ha : acc.length ≤ 9000) : arm_wires.L0 (.int .i64 (h : Int)) (.int .i64 ((N : Int) - 1)) (acc.map cellF) = some (.arr ((acc ++ (rowA (h + 1) ++ rowB N)).map cellF)):=by
 rw [arm_wires.L0_eq]
 have h1:=wires_l3 h (by omega) (.int .i64 ((N : Int) - 1)) acc (by omega) (h + 1) 0 (by omega)
 have h2:=wires_l4 N hN (acc ++ rowA (h + 1)) (by simp only [List.length_append,rowA_len];omega) N 0 (by omega)
 have z1 : rowA 0 = []:=rfl
 have z2 : rowB 0 = []:=rfl
 rw [z1,List.append_nil] at h1
 rw [z2,List.append_nil,List.append_assoc] at h2
 exact h1.trans h2
theorem wires_l1 (h V : Nat) (hh : h ≤ 60) (hV : V ≤ 60) (x1 : FV) : ∀ (n i : Nat),i + n = V + 2 → arm_wires.L1 (.int .i64 (h : Int)) x1 (.int .i64 ((i : Int) - V)) ((upT h V i).map cellF) = arm_wires.L0 (.int .i64 (h : Int)) x1 ((upT h V (V + 2)).map cellF):=by
 intro n
 induction n with
 | zero =>
  intro i hi
  obtain rfl : i = V + 2:=by omega
  rw [arm_wires.L1_eq]
  simp only [fBin_leq,bindO_s,fCond_b]
  rw [if_neg (by simp;omega)]
 | succ n ih =>
  intro i hi
  have e1 : IntKind.i64.wrap ((h : Int) + 1) = (h : Int) + 1:=wrap64 (by omega) (by omega)
  have e2 : IntKind.i64.wrap ((h : Int) + 2) = (h : Int) + 2:=wrap64 (by omega) (by omega)
  have e3 : IntKind.i64.wrap ((i : Int) - V + 1) = ((i + 1 : Nat) : Int) - V:=by rw [show (i : Int) - V + 1 = ((i + 1 : Nat) : Int) - V by omega];exact wrap64 (by omega) (by omega)
  have hlen:=upT_len h V i
  rw [arm_wires.L1_eq]
  simp only [fBin_leq,bindO_s,fCond_b,fBin_add,e1]
  rw [if_pos (by simp;omega)]
  have ih':=ih (i + 1) (by omega)
  rw [upT_succ] at ih'
  by_cases hz : (i : Int) - V ≤ 0
  ·rw [if_pos (by simp;omega),List.length_map,roomC (by omega),gB_t,snocF,arm_wires.L2_eq]
   simp only [bindO_s,fBin_add,e2,e3]
   rw [List.length_map,roomC (by simp;omega),gB_t,snocF,List.append_assoc]
   rw [if_pos hz] at ih'
   exact ih'
  ·rw [if_neg (by simp;omega),arm_wires.L2_eq]
   simp only [bindO_s,fBin_add,e2,e3]
   rw [List.length_map,roomC (by omega),gB_t,snocF]
   rw [if_neg hz] at ih'
   exact ih'
def upO (y : Int) : Option Nat:=if 0 ≤ y then some y.toNat else none
theorem wires_p (h : Nat) (y : Int) (hh : h ≤ 60) (hy : y ≤ 60) : arm_wires (.int .i64 (h : Int)) (.int .i64 y) = some (.arr ((wiresP h (upO y)).map cellF)):=by
 rw [arm_wires.eq]
 simp only [fBin_geq,bindO_s,fCond_b,upO]
 by_cases hy0 : 0 ≤ y
 ·obtain ⟨V,rfl⟩ : ∃ V : Nat,y = V:=⟨y.toNat,by omega⟩
  have e1 : IntKind.i64.wrap ((h : Int) + 1) = ((h + 2 : Nat) : Int) - 1:=by rw [show (h : Int) + 1 = ((h + 2 : Nat) : Int) - 1 by omega];exact wrap64 (by omega) (by omega)
  have e2 : fUn .neg (.int .i64 (V : Int)) = some (.int .i64 (((0 : Nat) : Int) - V)):=by
   show some (FV.int .i64 (IntKind.i64.wrap (0 - (V : Int)))) = _
   rw [wrap64 (by omega) (by omega)];rfl
  rw [if_pos (by simp),fBin_add,bindO_s,e1,e2,bindO_s,if_pos hy0]
  have:=wires_l1 h V hh (by omega) (.int .i64 (((h + 2 : Nat) : Int) - 1)) (V + 2) 0 (by omega)
  rw [show upT h V 0 = [] from rfl] at this
  rw [show ([] : List (List FV)) = ([] : List Cel).map cellF from rfl,this,wires_l0 h (h + 2) hh (by omega) _ (by have:=upT_len h V (V + 2);omega)]
  rfl
 ·rw [if_neg (by simpa using hy0),if_neg hy0]
  have:=wires_l0 h (h + 1) hh (by omega) [] (by simp)
  rw [show ((h + 1 : Nat) : Int) - 1 = (h : Int) by omega] at this
  exact this
theorem arm_l0 (h : Nat) (hh : h ≤ 60) (y : FV) : ∀ (n k : Nat),k + n = h + 1 → ref08_Arm.L0 (.int .i64 (h : Int)) y (.int .i64 9) (.int .i64 10) (.int .i64 (k : Int)) ((rowD k).map cellF) = ref08_Arm.L0 (.int .i64 (h : Int)) y (.int .i64 9) (.int .i64 10) (.int .i64 ((h + 1 : Nat) : Int)) ((rowD (h + 1)).map cellF):=by
 intro n
 induction n with
 | zero =>
  intro k hk
  obtain rfl : k = h + 1:=by omega
  rfl
 | succ n ih =>
  intro k hk
  have ek : IntKind.i64.wrap ((k : Int) + 1) = ((k + 1 : Nat) : Int):=wrap64 (by omega) (by omega)
  rw [ref08_Arm.L0_eq]
  simp only [fBin_leq,bindO_s,fCond_b,fBin_add,ek]
  rw [if_pos (by simp;omega),List.length_map,roomC (by rw [rowD_len];omega),gB_t,snocF2,← rowD_succ]
  exact ih (k + 1) (by omega)
theorem arm_l2 (h : Nat) (hh : h ≤ 60) (N : Nat) (hN : N ≤ 100) (acc : List Cel) (ha : acc.length ≤ 1000) : ∀ (n k : Nat),k + n = N → ref08_Arm.L2 (.int .i64 (h : Int)) (.int .i64 ((N : Int) - 1)) (.int .i64 10) (.int .i64 (k : Int)) ((acc ++ upD h k).map cellF) = some (canonD (acc ++ upD h N)):=by
 intro n
 induction n with
 | zero =>
  intro k hk
  obtain rfl : k = N:=by omega
  rw [ref08_Arm.L2_eq]
  simp only [fBin_leq,bindO_s,fCond_b]
  rw [if_neg (by simp;omega),canon_d _ (by simp only [List.length_append,upD_len];omega),bindO_s]
  unfold canonD
  cases decide (errC (acc ++ upD h k) = 0) with
  | false => rfl
  | true => cases decide ((canonC (acc ++ upD h k)).length ≤ 65536) <;> rfl
 | succ n ih =>
  intro k hk
  have ek : IntKind.i64.wrap ((k : Int) + 1) = ((k + 1 : Nat) : Int):=wrap64 (by omega) (by omega)
  have e1 : IntKind.i64.wrap ((h : Int) + 1) = (h : Int) + 1:=wrap64 (by omega) (by omega)
  have e2 : IntKind.i64.wrap ((h : Int) + 2) = (h : Int) + 2:=wrap64 (by omega) (by omega)
  have e3 : fUn .neg (.int .i64 (k : Int)) = some (.int .i64 (-(k : Int))):=by
   show some (FV.int .i64 (IntKind.i64.wrap (0 - (k : Int)))) = _
   rw [wrap64 (by omega) (by omega),Int.zero_sub]
  rw [ref08_Arm.L2_eq]
  simp only [fBin_leq,bindO_s,fCond_b,fBin_add,ek,e1,e2,e3]
  rw [if_pos (by simp;omega),List.length_map,roomC (by simp only [List.length_append,upD_len];omega),gB_t,snocF2,List.append_assoc,← upD_succ]
  exact ih (k + 1) (by omega)
theorem arm_d (h : Nat) (y : Int) (hs : stB h y = true) : ref08_Arm (.int .i64 (h : Int)) (.int .i64 y) = some (canonD (wiresD h (upO y))):=by
 have hb:=hs
 simp only [stB,Bool.and_eq_true,decide_eq_true_eq] at hb
 have hh : h ≤ 60:=by omega
 have e1 : IntKind.i64.wrap ((h : Int) + 1) = (h : Int) + 1:=wrap64 (by omega) (by omega)
 have e2 : IntKind.i64.wrap ((h : Int) + 2) = (h : Int) + 2:=wrap64 (by omega) (by omega)
 rw [ref08_Arm.eq,stands_d,hs]
 simp only [bindO_s,fUn_not,fCond_b]
 rw [if_neg (by simp)]
 have h0:=arm_l0 h hh (.int .i64 y) (h + 1) 0 (by omega)
 rw [show (rowD 0).map cellF = [] from rfl] at h0
 refine Eq.trans h0 ?_
 rw [ref08_Arm.L0_eq]
 simp only [fBin_leq,fBin_geq,bindO_s,fCond_b,fBin_add,e1,e2]
 rw [if_neg (by simp;omega)]
 by_cases hy0 : 0 ≤ y
 ·obtain ⟨V,rfl⟩ : ∃ V : Nat,y = V:=⟨y.toNat,by omega⟩
  rw [if_pos (by simp),List.length_map,roomC (by rw [rowD_len];omega),gB_t,snocF2,ref08_Arm.L1_eq]
  have:=arm_l2 h hh (V + 1) (by omega) (rowD (h + 1) ++ [((h : Int) + 1,1,17),((h : Int) + 2,1,18)]) (by simp only [List.length_append,rowD_len];simp;omega) (V + 1) 0 (by omega)
  rw [show upD h 0 = [] from rfl,List.append_nil,show ((V + 1 : Nat) : Int) - 1 = (V : Int) by omega] at this
  refine Eq.trans this ?_
  simp only [upO,if_pos hy0,wiresD,Int.toNat_natCast,List.append_assoc]
 ·rw [if_neg (by simpa using hy0),ref08_Arm.L1_eq]
  have:=arm_l2 h hh 0 (by omega) (rowD (h + 1)) (by rw [rowD_len];omega) 0 0 (by omega)
  rw [show upD h 0 = [] from rfl,List.append_nil,show ((0 : Nat) : Int) - 1 = y by omega] at this
  refine Eq.trans this ?_
  simp only [upO,if_neg hy0,wiresD]
theorem space_p : arm_space = some (.agg [.int .i64 0,.nilS]):=by
 rw [arm_space.eq]
end Go.Proofs.YtpffkpaiihcffaaGreatDoor
end
section
namespace Go.Proofs.YtpffkpaiihcffaaGreatDoor
open Go Go.Proofs Go.Proofs.YtpffkpaiihcffaaGreatDoor.VM Go.RowKit
def wordT : List (List UInt8 × Int):=[([48,48,48,48],9),([48,48,48,49],10),([48,48,49],11),([48,49,48],12),([48,49,49],17),([49,48,48],18),([49,48,49],19),([49,49,48],20),([49,49,49],25)]
noncomputable def wordL (s j : Int) : R:=cells_Word.L0 (.int .i64 s) (.str [48,48,48,48]) (.int .i64 9) (.str [48,48,48,49]) (.int .i64 10) (.str [48,48,49]) (.int .i64 11) (.str [48,49,48]) (.int .i64 12) (.str [48,49,49]) (.int .i64 17) (.str [49,48,48]) (.int .i64 18) (.str [49,48,49]) (.int .i64 19) (.str [49,49,48]) (.int .i64 20) (.str [49,49,49]) (.int .i64 25) (.int .i64 j)
theorem word_end (s : Int) : wordL s 9 = some (.tup [.str [],.bool false]):=by
 unfold wordL
 rw [cells_Word.L0_eq]
 simp
theorem word_step (s : Int) (j : Nat) (p : List UInt8 × Int) (h : wordT[j]? = some p) : wordL s (j : Int) = if p.2 = s then some (.tup [.str (49 :: p.1),.bool true]) else wordL s ((j + 1 : Nat) : Int):=by
 have hj : j < 9:=(List.getElem?_eq_some_iff.1 h).1
 have ej : IntKind.i64.wrap ((j : Int) + 1) = ((j + 1 : Nat) : Int):=wrap64 (by omega) (by omega)
 unfold wordL
 rw [cells_Word.L0_eq]
 simp only [fBin_lss,bindO_s,fCond_b,asNat_nat,ej,fBin_add]
 rw [if_pos (by simp;omega)]
 have fs : ∀ b : List UInt8,b.length ≤ 9 → fBin .add (.str [49]) (.str b) = some (.str (49 :: b)):=fun b hb => by simp [fBin];omega
 match j,hj,h with
 | 0,_,h | 1,_,h | 2,_,h | 3,_,h | 4,_,h | 5,_,h | 6,_,h | 7,_,h | 8,_,h =>
  cases h
  simp [fs]
end Go.Proofs.YtpffkpaiihcffaaGreatDoor
end
section
namespace Go.Proofs.YtpffkpaiihcffaaGreatDoor
open Go Go.Proofs Go.Proofs.YtpffkpaiihcffaaGreatDoor.VM Go.RowKit
theorem same_out (L : List Cel) (hl : L.length ≤ 1000000) : law08_same (outC L) (.arr (L.map cellF)) = some (.bool true):=by
 rw [law08_same.eq]
 cases L with
 | nil =>
  simp only [outC,fLen_nil,fLen_arr,List.map_nil,List.length_nil,bindO_s,fBin_neq,fCond_b]
  rw [if_neg (by simp),law08_same.L0_eq]
  simp
 | cons c l =>
  simp only [outC,fLen_arr,bindO_s,fBin_neq,fCond_b]
  rw [if_neg (by simp)]
  exact same_l0 (c :: l) hl (c :: l) 0 rfl
theorem errC_ok : ∀ {l : List Cel},(∀ c ∈ l,farC c = false ∧ stateC c.2.2 = true) → errC l = 0
 | [],_ => rfl
 | c :: l,h => by
  obtain ⟨h1,h2⟩:=h c (by simp)
  simp only [errC,h1,h2]
  exact errC_ok fun d hd => h d (by simp [hd])
theorem canonC_len (l : List Cel) : (canonC l).length ≤ l.length:=by
 have:=List.length_filter_le nzC (lastC l)
 have:=lastC_len l
 rw [canonC,sortC_len];omega
theorem wiresP_ok (h : Nat) (v : Option Nat) (hh : h ≤ 60) (hv : ∀ V,v = some V → V ≤ 60) : ∀ c ∈ wiresP h v,farC c = false ∧ stateC c.2.2 = true:=by
 intro c hc
 obtain ⟨x,y,s⟩:=c
 have fc : ∀ x y s : Int,-100 ≤ x → x ≤ 100 → -100 ≤ y → y ≤ 100 → 0 ≤ s → s < 29 → farC (x,y,s) = false ∧ stateC s = true:=fun x y s a1 a2 a3 a4 a5 a6 => by
  refine ⟨?_,by simp [stateC,a5,a6]⟩
  simp only [farC,Bool.or_eq_false_iff,decide_eq_false_iff_not]
  omega
 cases v with
 | none =>
  simp only [wiresP,List.mem_append,rowA_mem,rowB_mem,Prod.mk.injEq] at hc
  exact fc _ _ _ (by omega) (by omega) (by omega) (by omega) (by omega) (by omega)
 | some V =>
  have:=hv V rfl
  simp only [wiresP,List.mem_append,rowA_mem,rowB_mem,upA_mem,Prod.mk.injEq] at hc
  exact fc _ _ _ (by omega) (by omega) (by omega) (by omega) (by omega) (by omega)
theorem wiresP_len (h : Nat) (v : Option Nat) (hh : h ≤ 60) (hv : ∀ V,v = some V → V ≤ 60) : (wiresP h v).length ≤ 1000:=by
 cases v with
 | none => simp only [wiresP,List.length_append,rowA_len,rowB_len];omega
 | some V =>
  have:=hv V rfl
  have h1:=upT_len h V (V + 2)
  have e : upA h V = upT h V (V + 2):=rfl
  simp only [wiresP,e,List.length_append,rowA_len,rowB_len];omega
end Go.Proofs.YtpffkpaiihcffaaGreatDoor
end
section
namespace Go.Proofs.YtpffkpaiihcffaaGreatDoor
open Go Go.Proofs Go.Proofs.YtpffkpaiihcffaaGreatDoor.VM Go.RowKit
def dg (b : UInt8) : Bool:=decide (b = 48) || decide (b = 49)
theorem toNat_is (b n : UInt8) : ((b.toNat : Int) = (n.toNat : Int)) = (b = n):=by
 apply propext
 constructor
 ·intro h;exact UInt8.toNat_inj.1 (by omega)
 ·rintro rfl;rfl
theorem is48 (b : UInt8) : ((b.toNat : Int) = 48) = (b = 48):=toNat_is b 48
theorem is49 (b : UInt8) : ((b.toNat : Int) = 49) = (b = 49):=toNat_is b 49
theorem byteA {s : List UInt8} {k : Nat} {b : UInt8} (h : s[k]? = some b) : fByte (.str s) (.int .i64 (k : Int)) = some (.int .u8 (b.toNat : Int)):=by simp [fByte,h]
theorem digits_d (s : List UInt8) (hl : s.length ≤ 1000000) : ∀ (t : List UInt8) (k : Nat),s.drop k = t → ref08_Digits.L0 (.str s) (.int .i64 (k : Int)) = some (.bool (t.all dg)):=by
 intro t
 induction t with
 | nil =>
  intro k hd
  have hk:=drop_nil hd
  rw [ref08_Digits.L0_eq]
  simp only [fLenT_str,bindO_s,fBin_lss,fCond_b]
  rw [if_neg (by simp;omega)];rfl
 | cons b t ih =>
  intro k hd
  obtain ⟨hk,hb,ht⟩:=drop_cons hd
  have ek : IntKind.i64.wrap ((k : Int) + 1) = ((k + 1 : Nat) : Int):=wrap64 (by omega) (by omega)
  have ih':=ih (k + 1) ht
  rw [ref08_Digits.L0_eq]
  simp only [fLenT_str,bindO_s,fBin_lss,fCond_b,byteA hb,fBin_neq,fBin_add,ek,is48,is49,ne_eq]
  rw [if_pos (by simp;omega),ih']
  by_cases h0 : b = 48
  ·simp [h0,dg]
  ·by_cases h1 : b = 49
   ·simp [h1,dg]
   ·simp [h0,h1,dg]
theorem digits_p (A B : List UInt8) (hAB : A.length = B.length) (hl : A.length ≤ 1000000) : ∀ (t u : List UInt8) (k : Nat),A.drop k = t → B.drop k = u → arm_digits.L1 (.int .i64 (A.length : Int)) (.int .i64 (k : Int)) (.str A) (.str B) = some (.bool (t.all dg && u.all dg)):=by
 intro t
 induction t with
 | nil =>
  intro u k hd hu
  have hk:=drop_nil hd
  have hu0 : u = []:=by rw [← hu,List.drop_eq_nil_iff];omega
  subst hu0
  rw [arm_digits.L1_eq]
  simp only [bindO_s,fBin_lss,fCond_b]
  rw [if_neg (by simp;omega)];rfl
 | cons a t ih =>
  intro u k hd hu
  obtain ⟨hk,ha,ht⟩:=drop_cons hd
  obtain ⟨b,u',rfl⟩ : ∃ b u',u = b :: u':=by
   cases u with
   | nil => exact absurd (drop_nil hu) (by omega)
   | cons b u' => exact ⟨b,u',rfl⟩
  obtain ⟨_,hb,hu'⟩:=drop_cons hu
  have ek : IntKind.i64.wrap ((k : Int) + 1) = ((k + 1 : Nat) : Int):=wrap64 (by omega) (by omega)
  have ih':=ih u' (k + 1) ht hu'
  rw [arm_digits.L1_eq]
  simp only [bindO_s,fBin_lss,fCond_b,byteA ha,byteA hb,fBin_neq,fBin_add,ek,is48,is49,ne_eq]
  rw [if_pos (by simp;omega),ih']
  by_cases h0 : a = 48
  ·by_cases h2 : b = 48
   ·simp [h0,h2,dg]
   ·by_cases h3 : b = 49
    ·simp [h0,h3,dg]
    ·simp [h0,h2,h3,dg]
  ·by_cases h1 : a = 49
   ·by_cases h2 : b = 48
    ·simp [h1,h2,dg]
    ·by_cases h3 : b = 49
     ·simp [h1,h3,dg]
     ·simp [h1,h2,h3,dg]
   ·simp [h0,h1,dg]
def okT (A B : List UInt8) : Bool:=decide (A.length = B.length) && (A.all dg && B.all dg)
theorem arm_digits_p (A B : List UInt8) (hA : A.length ≤ 2000) : arm_digits (.agg [.str A,.str B]) = some (.bool (okT A B)):=by
 rw [arm_digits.eq]
 simp only [fIsAgg_agg,List.length_cons,List.length_nil,fCell_zero,fCell_succ,fLenT_str,bindO_s,fBin_neq,fBin_gtr,fCond_b,arm_digits.L0_eq]
 unfold okT
 by_cases h : A.length = B.length
 ·have e : ¬ ((A.length : Int) ≠ (B.length : Int)):=by omega
  rw [decide_eq_false e,decide_eq_false (show ¬ (262144 : Int) < (A.length : Int) by omega),decide_eq_true h]
  have:=digits_p A B h (by omega) A B 0 rfl rfl
  rw [show ((0 : Nat) : Int) = 0 from rfl] at this
  simp [this]
 ·have e : ((A.length : Int) ≠ (B.length : Int)):=by omega
  rw [decide_eq_true e,decide_eq_false h]
  simp
theorem digit_val {b : UInt8} (h : dg b = true) : (b = 48 ∧ ¬ b = 49) ∨ (b = 49 ∧ ¬ b = 48):=by
 simp only [dg,Bool.or_eq_true,decide_eq_true_eq] at h
 rcases h with rfl | rfl
 ·exact .inl ⟨rfl,by decide⟩
 ·exact .inr ⟨rfl,by decide⟩
theorem loaded_d1 (A B : List UInt8) (hAB : A.length = B.length) (hl : A.length ≤ 2000) (x : FV) : ∀ (n k : Nat),k + n = A.length →
  ref08_Loaded.L1 (.bool false) x (.int .i64 (k : Int)) (.str A) (.str B) ((trn A B k).map cellF) = ref08_Loaded.L4 x (.int .i64 0) (.str A) (.str B) ((trn A B A.length).map cellF):=by
 intro n
 induction n with
 | zero =>
  intro k hk
  obtain rfl : k = A.length:=by omega
  rw [ref08_Loaded.L1_eq]
  simp only [fLenT_str,bindO_s,fBin_lss,fCond_b]
  rw [if_neg (by simp)]
 | succ n ih =>
  intro k hk
  obtain ⟨a,ha⟩ : ∃ a,A[k]? = some a:=⟨_,List.getElem?_eq_getElem (by omega)⟩
  obtain ⟨b,hb⟩ : ∃ b,B[k]? = some b:=⟨_,List.getElem?_eq_getElem (by omega)⟩
  have ek : IntKind.i64.wrap ((k : Int) + 1) = ((k + 1 : Nat) : Int):=wrap64 (by omega) (by omega)
  have e1 : IntKind.i64.wrap (-1 - (k : Int)) = -1 - (k : Int):=wrap64 (by omega) (by omega)
  have ih':=ih (k + 1) (by omega)
  rw [trn_succ,ha,hb] at ih'
  simp only [Option.some.injEq] at ih'
  have l3 : ∀ p q : Int,ref08_Loaded.L3 (.bool false) x (.int .i64 (k : Int)) (.int .i64 p) (.int .i64 q) (.str A) (.str B) ((trn A B k).map cellF) = ref08_Loaded.L1 (.bool false) x (.int .i64 ((k + 1 : Nat) : Int)) (.str A) (.str B) ((trn A B k ++ [(-1 - (k : Int),0,p),(-1 - (k : Int),1,q)]).map cellF):=fun p q => by
   rw [ref08_Loaded.L3_eq]
   simp only [fBin_sub,bindO_s,e1,fBin_add,ek]
   rw [List.length_map,roomC (by rw [trn_len];omega),gB_t,snocF2]
  have l2 : ∀ p : Int,ref08_Loaded.L2 (.bool false) x (.int .i64 (k : Int)) (.int .i64 p) (.int .i64 17) (.str A) (.str B) ((trn A B k).map cellF) = ref08_Loaded.L1 (.bool false) x (.int .i64 ((k + 1 : Nat) : Int)) (.str A) (.str B) ((trn A B k ++ [(-1 - (k : Int),0,p),(-1 - (k : Int),1,if b = 49 then 21 else 17)]).map cellF):=fun p => by
   rw [ref08_Loaded.L2_eq]
   simp only [byteA hb,bindO_s,fBin_eql,fCond_b,fUn_not,is49,fBin_add,Bool.not_false,if_true,show IntKind.i64.wrap (17 + 4) = 21 from rfl,l3]
   by_cases h : b = 49
   ·rw [if_pos (by simpa using h),if_pos h]
   ·rw [if_neg (by simpa using h),if_neg h]
  rw [ref08_Loaded.L1_eq]
  simp only [fLenT_str,bindO_s,fBin_lss,fCond_b,byteA ha,fBin_eql,fUn_not,is49,fBin_add,Bool.not_false,if_true,show IntKind.i64.wrap (9 + 4) = 13 from rfl,l2]
  rw [if_pos (by simp;omega),← ih']
  by_cases h : a = 49
  ·rw [if_pos (by simpa using h),if_pos h]
  ·rw [if_neg (by simpa using h),if_neg h]
theorem loaded_d4 (L : List Cel) (hL : L.length ≤ 100000) (x3 x4 : FV) (acc0 : List Cel) (h0 : acc0.length ≤ 100000) : ∀ (s : List Cel) (k : Nat),L.drop k = s →
  ref08_Loaded.L4 (.arr (L.map cellF)) (.int .i64 (k : Int)) x3 x4 ((acc0 ++ L.take k).map cellF) = some (canonD (acc0 ++ L)):=by
 intro s
 induction s with
 | nil =>
  intro k hd
  have hk:=drop_nil hd
  rw [ref08_Loaded.L4_eq]
  simp only [fLen_arr,List.length_map,bindO_s,fBin_lss,fCond_b]
  rw [if_neg (by simp;omega),List.take_of_length_le (by omega),canon_d _ (by simp only [List.length_append];omega),bindO_s]
  unfold canonD
  cases decide (errC (acc0 ++ L) = 0) with
  | false => rfl
  | true => cases decide ((canonC (acc0 ++ L)).length ≤ 65536) <;> rfl
 | cons c s ih =>
  intro k hd
  obtain ⟨hk,hc,hs⟩:=drop_cons hd
  have ek : IntKind.i64.wrap ((k : Int) + 1) = ((k + 1 : Nat) : Int):=wrap64 (by omega) (by omega)
  have ih':=ih (k + 1) hs
  rw [List.take_add_one,hc] at ih'
  rw [ref08_Loaded.L4_eq]
  simp only [fLen_arr,List.length_map,bindO_s,fBin_lss,fCond_b]
  rw [if_pos (by simp;omega),idxC hc]
  simp only [bindO_s,cellF,List.getElem?_cons_zero,List.getElem?_cons_succ,fBin_add,ek]
  rw [roomC (by simp only [List.length_append,List.length_take];omega),gB_t,snocF,List.append_assoc]
  exact ih'
theorem loaded_p0 (P0 : List Cel) (hP : P0.length ≤ 1000) (A B : List UInt8) (hAB : A.length = B.length) (hl : A.length ≤ 2000) (hA : A.all dg = true) (hB : B.all dg = true) : ∀ (n k : Nat),k + n = A.length →
  arm_Loaded.L0 (.int .i64 (A.length : Int)) (.int .i64 (k : Int)) (.str A) (.str B) ((P0 ++ trn A B k).map cellF) = some (canonA (P0 ++ trn A B A.length)):=by
 intro n
 induction n with
 | zero =>
  intro k hk
  obtain rfl : k = A.length:=by omega
  rw [arm_Loaded.L0_eq]
  simp only [bindO_s,fBin_lss,fCond_b,space_p,fIsAgg_agg,List.length_cons,List.length_nil,fCell_zero,fCell_succ]
  rw [if_neg (by simp),canon_p _ (by simp only [List.length_append,trn_len];omega)]
  unfold canonA
  cases decide (errC (P0 ++ trn A B A.length) = 0) with
  | false => rfl
  | true => cases decide ((canonC (P0 ++ trn A B A.length)).length ≤ 65536) <;> rfl
 | succ n ih =>
  intro k hk
  obtain ⟨a,ha⟩ : ∃ a,A[k]? = some a:=⟨_,List.getElem?_eq_getElem (by omega)⟩
  obtain ⟨b,hb⟩ : ∃ b,B[k]? = some b:=⟨_,List.getElem?_eq_getElem (by omega)⟩
  have ek : IntKind.i64.wrap ((k : Int) + 1) = ((k + 1 : Nat) : Int):=wrap64 (by omega) (by omega)
  have e1 : IntKind.i64.wrap (-1 - (k : Int)) = -1 - (k : Int):=wrap64 (by omega) (by omega)
  have da:=List.all_eq_true.1 hA a (List.mem_of_getElem? ha)
  have db:=List.all_eq_true.1 hB b (List.mem_of_getElem? hb)
  have ih':=ih (k + 1) (by omega)
  rw [trn_succ,ha,hb] at ih'
  rw [arm_Loaded.L0_eq]
  simp only [bindO_s,fBin_lss,fCond_b,fBin_sub,e1,byteA ha,byteA hb,fConvInt_int,fBin_mul,fBin_add,ek]
  rw [if_pos (by simp;omega),List.length_map,roomC (by simp only [List.length_append,trn_len];omega),gB_t]
  refine Eq.trans ?_ ih'
  rcases digit_val da with ⟨rfl,_⟩ | ⟨rfl,_⟩ <;> rcases digit_val db with ⟨rfl,_⟩ | ⟨rfl,_⟩ <;> (rw [← List.append_assoc,← snocF2];rfl)
theorem loaded_both (A B : List UInt8) (x y : Int) (hA : A.length ≤ 2000) (hB : B.length ≤ 2000) : ∃ v1 v3 er,ref08_Loaded (.agg [.str A,.str B]) (.int .i64 x) (.int .i64 y) (.bool false) = some (.tup [v1,.int .i64 er]) ∧ arm_Loaded (.agg [.str A,.str B]) (.int .i64 x) (.int .i64 y) = some (.tup [v3,.int .i64 er]) ∧ law08_same v3 v1 = some (.bool true):=by
 have nil2 : law08_same .nilS .nilS = some (.bool true):=by rw [law08_same.eq,law08_same.L0_eq];simp
 have dA:=digits_d A (by omega) A 0 rfl
 have dB:=digits_d B (by omega) B 0 rfl
 rw [show ((0 : Nat) : Int) = 0 from rfl] at dA dB
 rw [ref08_Loaded.eq,arm_Loaded.eq]
 simp only [fIsAgg_agg,List.length_cons,List.length_nil,fCell_zero,fCell_succ,fLenT_str,bindO_s,fBin_neq,fBin_gtr,fCond_b,arm_digits_p A B hA,fUn_not,stands_p,ref08_Digits.eq,dA,dB,gB_t,Nat.zero_add,Nat.reduceAdd,beq_self_eq_true]
 rw [decide_eq_false (show ¬ (262144 : Int) < (A.length : Int) by omega)]
 unfold okT
 by_cases hAB : A.length = B.length
 ·rw [decide_eq_false (show ¬ ((A.length : Int) ≠ (B.length : Int)) by omega),decide_eq_true hAB]
  cases hdA : A.all dg with
  | false => exact ⟨.nilS,.nilS,83,by simp,by simp,nil2⟩
  | true =>
   cases hdB : B.all dg with
   | false => exact ⟨.nilS,.nilS,83,by simp,by simp,nil2⟩
   | true =>
    simp only [Bool.false_eq_true,if_false,Bool.not_true,Bool.true_and,Bool.and_self,ref08_Loaded.L0_eq]
    cases hs : stB x y with
    | false =>
     refine ⟨.nilS,.nilS,81,?_,by simp,nil2⟩
     have : ref08_Arm (.int .i64 x) (.int .i64 y) = some (.tup [.nilS,.int .i64 81]):=by rw [ref08_Arm.eq,stands_d,hs];rfl
     rw [this]
     simp
    | true =>
     have hb:=hs
     simp only [stB,Bool.and_eq_true,decide_eq_true_eq] at hb
     obtain ⟨h,rfl⟩ : ∃ h : Nat,x = h:=⟨x.toNat,by omega⟩
     have hv : ∀ V,upO y = some V → V ≤ 60:=fun V hV => by
      unfold upO at hV
      split at hV
      ·cases hV;omega
      ·cases hV
     have ok:=wiresP_ok h (upO y) (by omega) hv
     have okD : ∀ c ∈ wiresD h (upO y),farC c = false ∧ stateC c.2.2 = true:=fun c hc => ok c ((wires_same h (upO y) c).2 hc)
     have lenP:=wiresP_len h (upO y) (by omega) hv
     have l1:=canonC_len (wiresP h (upO y))
     have eD : ref08_Arm (.int .i64 (h : Int)) (.int .i64 y) = some (.tup [.arr ((canonC (wiresD h (upO y))).map cellF),.int .i64 0]):=by
      rw [arm_d h y hs]
      unfold canonD
      rw [errC_ok okD,← wires_canon,decide_eq_true (show (canonC (wiresP h (upO y))).length ≤ 65536 by omega)]
      rfl
     have l2 : (canonC (wiresD h (upO y))).length ≤ 1000:=by rw [← wires_canon];omega
     have w1 : IntKind.i64.wrap (2 * (A.length : Int)) = 2 * (A.length : Int):=wrap64 (by omega) (by omega)
     have w2 : ∀ n : Nat,n ≤ 1000 → IntKind.i64.wrap ((n : Int) + 2 * (A.length : Int)) = (n : Int) + 2 * (A.length : Int):=fun n hn => wrap64 (by omega) (by omega)
     have far : ∀ c ∈ trn A B A.length,farC c = false ∧ stateC c.2.2 = true:=fun c hc => by
      have:=trn_mem hc
      refine ⟨?_,by simp [stateC];omega⟩
      simp only [farC,Bool.or_eq_false_iff,decide_eq_false_iff_not]
      omega
     have okP : errC (wiresP h (upO y) ++ trn A B A.length) = 0:=errC_ok fun c hc => by
      rcases List.mem_append.1 hc with hc | hc
      ·exact ok c hc
      ·exact far c hc
     have okQ : errC (trn A B A.length ++ canonC (wiresD h (upO y))) = 0:=errC_ok fun c hc => by
      rcases List.mem_append.1 hc with hc | hc
      ·exact far c hc
      ·exact okD c ((canonC_apart (wiresD_apart h (upO y))).1 hc).1
     have l3:=canonC_len (wiresP h (upO y) ++ trn A B A.length)
     rw [List.length_append,trn_len] at l3
     have d1:=loaded_d1 A B hAB hA (.arr ((canonC (wiresD h (upO y))).map cellF)) A.length 0 (by omega)
     have d4:=loaded_d4 (canonC (wiresD h (upO y))) (by omega) (.str A) (.str B) (trn A B A.length) (by rw [trn_len];omega) _ 0 rfl
     have p0:=loaded_p0 (wiresP h (upO y)) lenP A B hAB hA hdA hdB A.length 0 (by omega)
     rw [show trn A B 0 = [] from rfl] at d1 p0
     rw [List.take_zero,List.append_nil] at d4
     rw [List.append_nil] at p0
     refine ⟨.arr ((canonC (wiresP h (upO y) ++ trn A B A.length)).map cellF),outC (canonC (wiresP h (upO y) ++ trn A B A.length)),0,?_,?_,same_out _ (by omega)⟩
     ·rw [eD]
      simp only [bindO_s,fIsTup_tup,List.length_cons,List.length_nil,fTup_zero,fTup_succ,fBin_neq,fCond_b,fLen_arr,fLenT_str,List.length_map,fBin_mul,w1,fBin_add,w2 _ l2,fBin_gtr,Nat.zero_add,Nat.reduceAdd,beq_self_eq_true,gB_t]
      rw [decide_eq_false (show ¬ (65536 : Int) < ((canonC (wiresD h (upO y))).length : Int) + 2 * (A.length : Int) by omega)]
      refine Eq.trans (b:=ref08_Loaded.L1 (.bool false) (.arr ((canonC (wiresD h (upO y))).map cellF)) (.int .i64 0) (.str A) (.str B) []) (by simp) ?_
      refine Eq.trans d1 (Eq.trans d4 ?_)
      unfold canonD
      rw [okQ,← loaded_canon,decide_eq_true (show (canonC (wiresP h (upO y) ++ trn A B A.length)).length ≤ 65536 by omega)]
      rfl
     ·rw [wires_p h y (by omega) (by omega)]
      simp only [bindO_s,arrRows_arr,List.length_map,fBin_mul,w1,fBin_add,w2 _ lenP,fBin_gtr,fCond_b]
      rw [decide_eq_false (show ¬ (65536 : Int) < ((wiresP h (upO y)).length : Int) + 2 * (A.length : Int) by omega)]
      refine Eq.trans (b:=arm_Loaded.L0 (.int .i64 (A.length : Int)) (.int .i64 0) (.str A) (.str B) ((wiresP h (upO y)).map cellF)) (by simp) ?_
      refine Eq.trans p0 ?_
      unfold canonA
      rw [okP,decide_eq_true (show (canonC (wiresP h (upO y) ++ trn A B A.length)).length ≤ 65536 by omega)]
      rfl
 ·rw [decide_eq_true (show ((A.length : Int) ≠ (B.length : Int)) by omega),decide_eq_false hAB]
  exact ⟨.nilS,.nilS,83,by simp,by simp,nil2⟩
theorem armLoaded_law (A B : List UInt8) (x y : Int) : law08_ArmLoaded (.agg [.str A,.str B]) (.int .i64 x) (.int .i64 y) = some (.bool true):=by
 rw [law08_ArmLoaded.eq]
 simp only [fIsAgg_agg,List.length_cons,List.length_nil,fCell_zero,fCell_succ,fLenT_str,bindO_s,fBin_gtr,fCond_b,awake_true,Nat.zero_add,Nat.reduceAdd,beq_self_eq_true,gB_t]
 by_cases hA : (2000 : Int) < (A.length : Int)
 ·rw [if_pos (decide_eq_true hA)]
 ·rw [if_neg (by simpa using hA)]
  by_cases hB : (2000 : Int) < (B.length : Int)
  ·rw [if_pos (decide_eq_true hB)]
  ·rw [if_neg (by simpa using hB),law08_ArmLoaded.L0_eq]
   obtain ⟨v1,v3,er,k1,k2,k3⟩:=loaded_both A B x y (by omega) (by omega)
   rw [k1,k2]
   simp only [bindO_s,fIsTup_tup,List.length_cons,List.length_nil,fTup_zero,fTup_succ,k3,fBin_eql,fCond_b,awake_true]
   simp
theorem armLoaded_pure (x : Vals tcsArmLoaded) (h : wfs tcsArmLoaded x) : den E 5 (argsF tcsArmLoaded x) = some (.bool true):=by
 obtain ⟨⟨A,B,u⟩,a,b,v⟩:=x
 exact armLoaded_law A B a b
end Go.Proofs.YtpffkpaiihcffaaGreatDoor
end
