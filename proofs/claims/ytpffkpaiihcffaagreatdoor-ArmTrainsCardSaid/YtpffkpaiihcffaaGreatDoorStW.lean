/- Steps of the proof: The codes of the types of the law ArmStands's parameters; The document's Canon (rametref01), the law's comparison of lists; The document's Canon; the law's comparison; both arms; Both arms, both After, the law ArmStands; Both After; the law ArmStands; The law ArmStands; The codes of the types of the law ArmMoves's parameters; The program's Moves over a field's columns; The program's Wipe over a field's columns; its Moves and Wipe over lists of cells; The document's Proper, field, last, top, At; The document's Moves; The document's Wipe; the law ArmMoves; The law ArmMoves; The law ArmTrains; The codes of the types of the law ArmTrains's parameters; The law ArmTrains: the document's side, and both together. -/
import Derived.Test.YtpffkpaiihcffaaGreatDoorEnv
import Derived.Test.YtpffkpaiihcffaaGreatDoorRow
import Derived.Test.YtpffkpaiihcffaaGreatDoorCode0
import Derived.Test.YtpffkpaiihcffaaGreatDoorKit
import Derived.Test.YtpffkpaiihcffaaGreatDoorCel
import Derived.Test.YtpffkpaiihcffaaGreatDoorOvk
set_option linter.unusedVariables false
set_option linter.unusedSimpArgs false
section
namespace Go.Proofs.YtpffkpaiihcffaaGreatDoor
open Go Go.Proofs.YtpffkpaiihcffaaGreatDoor.VM
end Go.Proofs.YtpffkpaiihcffaaGreatDoor
end
section
namespace Go.Proofs.YtpffkpaiihcffaaGreatDoor
open Go Go.Proofs Go.Proofs.YtpffkpaiihcffaaGreatDoor.VM Go.RowKit
theorem near_d (c : Cel) : ref01_near (.int .i64 c.1) (.int .i64 c.2.1) = some (.bool (!farC c)):=by
 rw [ref01_near.eq]
 simp only [fBin_geq,fBin_leq,bindO_s,fCond_b,farC]
 by_cases h1 : -1073741824 ≤ c.1 <;> by_cases h2 : c.1 ≤ 1073741824 <;> by_cases h3 : -1073741824 ≤ c.2.1 <;> by_cases h4 : c.2.1 ≤ 1073741824 <;> simp [h1,h2,h3,h4] <;> omega
theorem check_d (x : FV) : ref01_Check (.agg [.int .i64 0,x]) = some (.int .i64 0):=by
 rw [ref01_Check.eq]
 simp [ref01_Check.L0_eq]
theorem states_d (x : FV) : ref01_States (.agg [.int .i64 0,x]) = some (.int .i64 29):=by
 rw [ref01_States.eq]
 simp [check_d]
theorem isState_d (x : FV) (s : Int) : ref01_isState (.agg [.int .i64 0,x]) (.int .i64 s) = some (.bool (stateC s)):=by
 rw [ref01_isState.eq]
 simp only [fIsAgg_agg,List.length_cons,List.length_nil,fCell_zero,fCell_succ,fBin_eql,fBin_geq,bindO_s,fCond_b,states_d,fBin_lss,stateC]
 by_cases h : 0 ≤ s <;> simp [h]
theorem behind_d (a b : Cel) : ref01_behind (.agg (cellF a)) (.agg (cellF b)) = some (.bool (befC b a)):=by
 rw [ref01_behind.eq]
 simp only [cellF,fIsAgg_agg,List.length_cons,List.length_nil,fCell_zero,fCell_succ,fBin_gtr,fBin_eql,bindO_s,fCond_b,befC]
 by_cases h1 : b.2.1 < a.2.1
 ·simp [h1]
 ·by_cases h2 : b.2.1 = a.2.1
  ·simp [h1,h2]
  ·simp [h1,h2,Ne.symm h2]
theorem idxC {l : List Cel} {k : Nat} {c : Cel} (h : l[k]? = some c) : fIdxC 3 (.arr (l.map cellF)) (.int .i64 (k : Int)) = some (cellF c):=idx_arr (by rw [List.getElem?_map,h];rfl) rfl
end Go.Proofs.YtpffkpaiihcffaaGreatDoor
end
section
namespace Go.Proofs.YtpffkpaiihcffaaGreatDoor
open Go Go.Proofs Go.Proofs.YtpffkpaiihcffaaGreatDoor.VM Go.RowKit
theorem celsF_cells : ∀ l : List Cel,celsF (l.map cellF) = some l
 | [] => rfl
 | c :: l => by simp [celsF,celF,cellF,celsF_cells l]
end Go.Proofs.YtpffkpaiihcffaaGreatDoor
end
section
namespace Go.Proofs.YtpffkpaiihcffaaGreatDoor
open Go Go.Proofs Go.Proofs.YtpffkpaiihcffaaGreatDoor.VM Go.RowKit
end Go.Proofs.YtpffkpaiihcffaaGreatDoor
end
section
namespace Go.Proofs.YtpffkpaiihcffaaGreatDoor
open Go Go.Proofs Go.Proofs.YtpffkpaiihcffaaGreatDoor.VM Go.RowKit
def wordT : List (List UInt8 × Int):=[([48,48,48,48],9),([48,48,48,49],10),([48,48,49],11),([48,49,48],12),([48,49,49],17),([49,48,48],18),([49,48,49],19),([49,49,48],20),([49,49,49],25)]
noncomputable def wordL (s j : Int) : R:=cells_Word.L0 (.int .i64 s) (.str [48,48,48,48]) (.int .i64 9) (.str [48,48,48,49]) (.int .i64 10) (.str [48,48,49]) (.int .i64 11) (.str [48,49,48]) (.int .i64 12) (.str [48,49,49]) (.int .i64 17) (.str [49,48,48]) (.int .i64 18) (.str [49,48,49]) (.int .i64 19) (.str [49,49,48]) (.int .i64 20) (.str [49,49,49]) (.int .i64 25) (.int .i64 j)
theorem word_end (s : Int) : wordL s 9 = some (.tup [.str [],.bool false]):=by
 unfold wordL
 rw [cells_Word.L0_eq]
 simp
theorem word_step (s : Int) (j : Nat) (p : List UInt8 × Int) (h : wordT[j]? = some p) : wordL s (j : Int) = if p.2 = s then some (.tup [.str (49 :: p.1),.bool true]) else wordL s ((j + 1 : Nat) : Int):=by
 have hj : j < 9:=(List.getElem?_eq_some_iff.1 h).1
 have ej : IntKind.i64.wrap ((j : Int) + 1) = ((j + 1 : Nat) : Int):=wrap64 (by omega) (by omega)
 unfold wordL
 rw [cells_Word.L0_eq]
 simp only [fBin_lss,bindO_s,fCond_b,asNat_nat,ej,fBin_add]
 rw [if_pos (by simp;omega)]
 have fs : ∀ b : List UInt8,b.length ≤ 9 → fBin .add (.str [49]) (.str b) = some (.str (49 :: b)):=fun b hb => by simp [fBin];omega
 match j,hj,h with
 | 0,_,h | 1,_,h | 2,_,h | 3,_,h | 4,_,h | 5,_,h | 6,_,h | 7,_,h | 8,_,h =>
  cases h
  simp [fs]
theorem word_p (s : Int) : ∃ w,cells_Word (.int .i64 s) = some (.tup [.str w,.bool (quietC s)]):=by
 rw [cells_Word.eq]
 change ∃ w,wordL s ((0 : Nat) : Int) = _
 rw [word_step s 0 _ rfl,word_step s 1 _ rfl,word_step s 2 _ rfl,word_step s 3 _ rfl,word_step s 4 _ rfl,word_step s 5 _ rfl,word_step s 6 _ rfl,word_step s 7 _ rfl,word_step s 8 _ rfl,show ((8 + 1 : Nat) : Int) = 9 from rfl,word_end]
 simp only [eq_comm (b:=s)]
 unfold quietC
 by_cases h0 : s = 9
 ·subst h0;exact ⟨_,rfl⟩
 by_cases h1 : s = 10
 ·subst h1;exact ⟨_,rfl⟩
 by_cases h2 : s = 11
 ·subst h2;exact ⟨_,rfl⟩
 by_cases h3 : s = 12
 ·subst h3;exact ⟨_,rfl⟩
 by_cases h4 : s = 17
 ·subst h4;exact ⟨_,rfl⟩
 by_cases h5 : s = 18
 ·subst h5;exact ⟨_,rfl⟩
 by_cases h6 : s = 19
 ·subst h6;exact ⟨_,rfl⟩
 by_cases h7 : s = 20
 ·subst h7;exact ⟨_,rfl⟩
 by_cases h8 : s = 25
 ·subst h8;exact ⟨_,rfl⟩
 exact ⟨[],by simp [h0,h1,h2,h3,h4,h5,h6,h7,h8]⟩
theorem word_d (s : Int) : ∃ w,ref01_Word (.int .i64 s) = some (.tup [.str w,.bool (quietC s)]):=by
 rw [ref01_Word.eq]
 simp only [fBin_eql,bindO_s,fCond_b]
 unfold quietC
 by_cases h0 : s = 9
 ·subst h0;exact ⟨_,rfl⟩
 by_cases h1 : s = 10
 ·subst h1;exact ⟨_,rfl⟩
 by_cases h2 : s = 11
 ·subst h2;exact ⟨_,rfl⟩
 by_cases h3 : s = 12
 ·subst h3;exact ⟨_,rfl⟩
 by_cases h4 : s = 17
 ·subst h4;exact ⟨_,rfl⟩
 by_cases h5 : s = 18
 ·subst h5;exact ⟨_,rfl⟩
 by_cases h6 : s = 19
 ·subst h6;exact ⟨_,rfl⟩
 by_cases h7 : s = 20
 ·subst h7;exact ⟨_,rfl⟩
 by_cases h8 : s = 25
 ·subst h8;exact ⟨_,rfl⟩
 exact ⟨[],by simp [h0,h1,h2,h3,h4,h5,h6,h7,h8]⟩
theorem nine_d (s : Int) : ref08_Nine (.int .i64 s) = some (.bool (quietC s)):=by
 obtain ⟨w,h⟩:=word_d s
 rw [ref08_Nine.eq,h]
 rfl
def rightB (k c : Int) : Bool:=if k = 7 ∨ k = 8 then quietC c else decide (1 ≤ k) && (decide (k ≤ 6) && decide (c = 0))
theorem formed_p (k c : Int) : arm_formed (.agg [.int .i64 k,.int .i64 c]) = some (.bool (rightB k c)):=by
 obtain ⟨w,h⟩:=word_p c
 rw [arm_formed.eq]
 simp only [fIsAgg_agg,List.length_cons,List.length_nil,fCell_zero,fCell_succ,fBin_geq,fBin_leq,bindO_s,fCond_b,arm_formed.L0_eq,fBin_eql,h,rightB,fIsTup_tup,fTup_zero,fTup_succ]
 by_cases h7 : k = 7
 ·subst h7;simp
 by_cases h8 : k = 8
 ·subst h8;simp
 by_cases h1 : 1 ≤ k <;> by_cases h2 : k ≤ 6 <;> simp [h1,h2,h7,h8]
end Go.Proofs.YtpffkpaiihcffaaGreatDoor
end
section
namespace Go.Proofs.YtpffkpaiihcffaaGreatDoor
open Go Go.Proofs Go.Proofs.YtpffkpaiihcffaaGreatDoor.VM Go.RowKit
end Go.Proofs.YtpffkpaiihcffaaGreatDoor
end
section
namespace Go.Proofs.YtpffkpaiihcffaaGreatDoor
open Go Go.Proofs.YtpffkpaiihcffaaGreatDoor.VM
end Go.Proofs.YtpffkpaiihcffaaGreatDoor
end
section
namespace Go.Proofs.YtpffkpaiihcffaaGreatDoor
open Go Go.Proofs Go.Proofs.YtpffkpaiihcffaaGreatDoor.VM Go.RowKit
def moveF (m : Mv) : List FV:=[.int .i64 m.1,.int .i64 m.2]
theorem moveF_len (m : Mv) : (moveF m).length = 2:=rfl
theorem snocM (acc : List Mv) (a b : Int) : acc.map moveF ++ [[FV.int .i64 a,.int .i64 b]] = (acc ++ [(a,b)]).map moveF:=by simp [moveF]
theorem roomM {n : Nat} (h : n ≤ 1000000) : decide (n * 16 ≤ room) = true:=decide_eq_true (by unfold room;omega)
theorem fLen_colsF (cols : List (List Int)) : fLen (colsF cols) = some (.int .i64 (cols.length : Int)):=by cases cols <;> simp [colsF]
theorem fLen_colF (c : List Int) : fLen (colF c) = some (.int .i64 (c.length : Int)):=by cases c <;> simp [colF]
theorem idx_colsF {cols : List (List Int)} {j : Nat} (h : j < cols.length) : fIdxC 1 (colsF cols) (.int .i64 (j : Int)) = some [colF (cols.getD j [])]:=by
 cases cols with
 | nil => simp at h
 | cons a l => exact idx_arr (by rw [List.getElem?_map,List.getElem?_eq_getElem h,List.getD_eq_getElem?_getD,List.getElem?_eq_getElem h];rfl) rfl
theorem idx_colF {c : List Int} {k : Nat} (h : k < c.length) : fIdxC 1 (colF c) (.int .i64 (k : Int)) = some [.int .i64 (c.getD k 0)]:=by
 cases c with
 | nil => simp at h
 | cons a l => exact idx_arr (by rw [List.getElem?_map,List.getElem?_eq_getElem h,List.getD_eq_getElem?_getD,List.getElem?_eq_getElem h];rfl) rfl
theorem repM_succ (k : Int) (n : Nat) : repM k (n + 1) = repM k n ++ [(k,0)]:=by simp [repM,List.replicate_succ']
theorem times_l0 (k : Int) (N : Nat) (hN : N ≤ 1000) : ∀ (n j : Nat),j + n = N → arm_times.L0 (.int .i64 k) (.int .i64 (N : Int)) (.int .i64 (j : Int)) ((repM k j).map moveF) = some (.arr ((repM k N).map moveF)):=by
 intro n
 induction n with
 | zero =>
  intro j hj
  obtain rfl : j = N:=by omega
  rw [arm_times.L0_eq]
  simp only [fBin_lss,bindO_s,fCond_b]
  rw [if_neg (by simp)]
 | succ n ih =>
  intro j hj
  have ej : IntKind.i64.wrap ((j : Int) + 1) = ((j + 1 : Nat) : Int):=wrap64 (by omega) (by omega)
  rw [arm_times.L0_eq]
  simp only [fBin_lss,bindO_s,fCond_b,fBin_add,ej]
  rw [if_pos (by simp;omega),List.length_map,roomM (by simp [repM];omega),gB_t,snocM,← repM_succ]
  exact ih (j + 1) (by omega)
theorem times_p (k : Int) (n : Int) (hn : n ≤ 1000) : arm_times (.int .i64 k) (.int .i64 n) = some (.arr ((repM k n.toNat).map moveF)):=by
 rw [arm_times.eq]
 by_cases h : 0 ≤ n
 ·obtain ⟨N,rfl⟩ : ∃ N : Nat,n = N:=⟨n.toNat,by omega⟩
  exact times_l0 k N (by omega) N 0 (by omega)
 ·rw [arm_times.L0_eq]
  simp only [fBin_lss,bindO_s,fCond_b]
  rw [if_neg (by simp;omega),show n.toNat = 0 by omega]
  rfl
theorem downP_len (c : List Int) : ∀ k,(downP c k).length ≤ 2 * k
 | 0 => by simp [downP]
 | k + 1 => by
  have:=downP_len c k
  simp only [downP,List.length_append]
  repeat' split
  all_goals simp;omega
theorem repM_len (k : Int) (n : Nat) : (repM k n).length = n:=by simp [repM]
theorem colP_len (c : List Int) : (colP c).length ≤ 3 * c.length + 2:=by
 have:=downP_len c c.length
 unfold colP
 split
 ·simp
 ·simp only [List.length_cons,List.length_append,repM_len,List.length_nil];omega
theorem seqP_len (cols : List (List Int)) (hc : ∀ j,(cols.getD j []).length ≤ 100) : ∀ n,(seqP cols n).length ≤ 400 * n
 | 0 => by simp [seqP]
 | n + 1 => by
  have h1:=seqP_len cols hc n
  have h2:=colP_len (cols.getD n [])
  have h3:=hc n
  rw [seqP_succ,List.length_append,List.length_append]
  have h4 : (preM n).length ≤ 1:=by unfold preM;split <;> simp
  omega
theorem moves_l2 (c : List Int) (hc : c.length ≤ 100) (j : Nat) (hj : j ≤ 1000) (x2 x3 x5 : FV) (r : List (List FV)) : ∀ (n : Nat) (acc : List Mv),n ≤ c.length → acc.length + 2 * n ≤ 900000 →
  arm_Moves.L2 (colF c) (.int .i64 ((n : Int) - 1)) x2 x3 (.int .i64 (j : Int)) x5 r (acc.map moveF) = arm_Moves.L0 x2 x3 (.int .i64 ((j + 1 : Nat) : Int)) x5 ((acc ++ (downP c n ++ [(6,0)])).map moveF):=by
 intro n
 induction n with
 | zero =>
  intro acc hn ha
  have ej : IntKind.i64.wrap ((j : Int) + 1) = ((j + 1 : Nat) : Int):=wrap64 (by omega) (by omega)
  rw [arm_Moves.L2_eq]
  simp only [fBin_geq,bindO_s,fCond_b,fBin_add,ej]
  rw [if_neg (by simp),List.length_map,roomM (by omega),gB_t,snocM]
  simp [downP]
 | succ n ih =>
  intro acc hn ha
  have e0 : ((n + 1 : Nat) : Int) - 1 = (n : Int):=by omega
  have e1 : IntKind.i64.wrap ((n : Int) - 1) = (n : Int) - 1:=wrap64 (by omega) (by omega)
  have step : ∀ acc : List Mv,acc.length + (2 * n + 1) ≤ 900000 → arm_Moves.L3 (colF c) (.int .i64 (n : Int)) x2 x3 (.int .i64 (j : Int)) x5 r (acc.map moveF) = arm_Moves.L0 x2 x3 (.int .i64 ((j + 1 : Nat) : Int)) x5 ((acc ++ ((if 0 < n then [(5,0)] else []) ++ (downP c n ++ [(6,0)]))).map moveF):=fun acc ha => by
   rw [arm_Moves.L3_eq]
   simp only [fBin_gtr,bindO_s,fCond_b,fBin_sub,e1]
   by_cases h : 0 < n
   ·rw [if_pos (by simp;omega),List.length_map,roomM (by omega),gB_t,snocM,ih _ (by omega) (by simp;omega),if_pos h]
    simp
   ·rw [if_neg (by simp;omega),ih _ (by omega) (by omega),if_neg h]
    simp
  rw [e0,arm_Moves.L2_eq]
  simp only [fBin_geq,bindO_s,fCond_b]
  rw [if_pos (by simp),idx_colF (by omega)]
  simp only [bindO_s,List.getElem?_cons_zero,fBin_neq,fCond_b]
  have e : downP c (n + 1) = (if c.getD n 0 ≠ 0 then [(7,c.getD n 0)] else []) ++ ((if 0 < n then [(5,0)] else []) ++ downP c n):=rfl
  obtain ⟨s,hs⟩ : ∃ s,c.getD n 0 = s:=⟨_,rfl⟩
  rw [hs] at e ⊢
  by_cases hz : s = 0
  ·subst hz
   rw [if_neg (by simp),step acc (by omega),e]
   simp
  ·rw [if_pos (decide_eq_true hz),List.length_map,roomM (by omega),gB_t,snocM,step _ (by simp;omega),e]
   simp [hz]
theorem moves_l0 (cols : List (List Int)) (hN : cols.length ≤ 100) (hc : ∀ j,(cols.getD j []).length ≤ 100) : ∀ (n j : Nat),j + n = cols.length →
  arm_Moves.L0 (colsF cols) (.int .i64 (cols.length : Int)) (.int .i64 (j : Int)) (colsF cols) ((seqP cols j).map moveF) = some (.tup [.arr ((movP cols).map moveF),.int .i64 0]):=by
 intro n
 induction n with
 | zero =>
  intro j hj
  obtain rfl : j = cols.length:=by omega
  have hl:=seqP_len cols hc cols.length
  have e1 : IntKind.i64.wrap ((cols.length : Int) - 1) = (cols.length : Int) - 1:=wrap64 (by omega) (by omega)
  rw [arm_Moves.L0_eq]
  simp only [fBin_lss,bindO_s,fCond_b,fLen_colsF,fBin_sub,e1]
  rw [if_neg (by simp),times_p 2 _ (by omega),bindO_s,arrRows_arr,bindO_s,rowsSz_map moveF_len,gB_t,List.length_map,List.length_map,roomM (by rw [repM_len];omega),gB_t,← List.map_append]
  rw [show ((cols.length : Int) - 1).toNat = cols.length - 1 by omega]
  rfl
 | succ n ih =>
  intro j hj
  have hl:=seqP_len cols hc j
  have hcj:=hc j
  have ej : IntKind.i64.wrap ((j : Int) + 1) = ((j + 1 : Nat) : Int):=wrap64 (by omega) (by omega)
  have ih':=ih (j + 1) (by omega)
  rw [seqP_succ] at ih'
  have col : ∀ acc : List Mv,acc.length ≤ 50000 → arm_Moves.L1 (colF (cols.getD j [])) (colsF cols) (.int .i64 (cols.length : Int)) (.int .i64 (j : Int)) (colsF cols) (acc.map moveF) = arm_Moves.L0 (colsF cols) (.int .i64 (cols.length : Int)) (.int .i64 ((j + 1 : Nat) : Int)) (colsF cols) ((acc ++ colP (cols.getD j [])).map moveF):=fun acc ha => by
   generalize cols.getD j [] = c at hcj
   have e1 : IntKind.i64.wrap ((c.length : Int) - 1) = (c.length : Int) - 1:=wrap64 (by omega) (by omega)
   rw [arm_Moves.L1_eq]
   simp only [fLen_colF,bindO_s,fBin_eql,fCond_b,fBin_add,fBin_sub,ej,e1]
   by_cases h0 : c.length = 0
   ·rw [if_pos (decide_eq_true (by omega))]
    simp [colP,h0]
   ·rw [if_neg (by rw [decide_eq_true_eq];omega),List.length_map,roomM (by omega),gB_t,times_p 4 _ (by omega),bindO_s,arrRows_arr,bindO_s,rowsSz_map moveF_len,gB_t,snocM,List.length_map,List.length_map,roomM (by simp [repM_len];omega),gB_t,← List.map_append]
    rw [moves_l2 c hcj j (by omega) _ _ _ _ c.length _ (Nat.le_refl _) (by simp [repM_len];omega)]
    rw [show ((c.length : Int) - 1).toNat = c.length - 1 by omega]
    unfold colP
    rw [if_neg h0]
    simp
  rw [arm_Moves.L0_eq]
  simp only [fBin_lss,bindO_s,fCond_b]
  rw [if_pos (by simp;omega),idx_colsF (by omega)]
  simp only [bindO_s,List.getElem?_cons_zero,fBin_gtr,fCond_b]
  by_cases h0 : 0 < j
  ·rw [if_pos (by simp;omega),List.length_map,roomM (by omega),gB_t,snocM,col _ (by simp;omega)]
   unfold preM at ih'
   rw [if_pos h0] at ih'
   rw [List.append_assoc]
   exact ih'
  ·rw [if_neg (by simp;omega),col _ (by omega)]
   unfold preM at ih'
   rw [if_neg h0,List.nil_append] at ih'
   exact ih'
end Go.Proofs.YtpffkpaiihcffaaGreatDoor
end
section
namespace Go.Proofs.YtpffkpaiihcffaaGreatDoor
open Go Go.Proofs Go.Proofs.YtpffkpaiihcffaaGreatDoor.VM Go.RowKit
theorem read_p (l : List Cel) (hl : l.length ≤ 1000000) : arm_read (.arr (l.map cellF)) = some (readA l):=by
 have e : arm_read (.arr (l.map cellF)) = readOv [.arr (l.map cellF)]:=(den_eq E 43 _).trans (by kernel_rfl)
 rw [e]
 simp only [readOv,asRows_arr,bindO_s,celsF_cells,decide_eq_true hl,gB_t]
def badC (l : List Cel) : Int:=match decide (properC l = 0) with | false => properC l | true => fieldC l
def outM (l : List Cel) (ms : List Mv) : FV:=match decide (badC l = 0) with | false => .tup [.nilS,.int .i64 (badC l)] | true => .tup [.arr (ms.map moveF),.int .i64 0]
theorem readA_bad (l : List Cel) : readA l = match decide (badC l = 0) with | false => .tup [.agg [.nilS],.int .i64 (badC l)] | true => .tup [.agg [colsF (colsOf l)],.int .i64 0]:=by
 unfold readA badC
 by_cases h : properC l = 0
 ·simp only [h,decide_true]
  by_cases h2 : fieldC l = 0 <;> simp [h2]
 ·simp [h]
theorem bad_ok {l : List Cel} (h : badC l = 0) : properC l = 0 ∧ fieldC l = 0:=by
 unfold badC at h
 split at h
 ·rename_i h1;rw [h] at h1;simp at h1
 ·rename_i h1;exact ⟨of_decide_eq_true h1,h⟩
theorem cols_small {l : List Cel} (h : badC l = 0) : (colsOf l).length ≤ 100 ∧ ∀ j,((colsOf l).getD j []).length ≤ 100:=by
 have hi:=field_in (bad_ok h).2
 have h1:=cols_len l hi
 refine ⟨by omega,fun j => ?_⟩
 have h2:=cols_top l hi j
 omega
theorem moves_p (l : List Cel) (hl : l.length ≤ 1000000) : arm_Moves (.arr (l.map cellF)) = some (outM l (movP (colsOf l))):=by
 rw [arm_Moves.eq,read_p l hl,bindO_s,readA_bad]
 unfold outM
 by_cases h : badC l = 0
 ·obtain ⟨h1,h2⟩:=cols_small h
  have:=moves_l0 (colsOf l) h1 h2 (colsOf l).length 0 (by omega)
  rw [show seqP (colsOf l) 0 = [] from rfl] at this
  simp only [decide_eq_true h,fIsTup_tup,List.length_cons,List.length_nil,fTup_zero,fTup_succ,fIsAgg_agg,fCell_zero,fBin_neq,bindO_s,fCond_b,fLen_colsF]
  exact this
 ·simp only [decide_eq_false h,fIsTup_tup,List.length_cons,List.length_nil,fTup_zero,fTup_succ,fIsAgg_agg,fCell_zero,fBin_neq,bindO_s,fCond_b,if_pos (decide_eq_true h)]
  rfl
end Go.Proofs.YtpffkpaiihcffaaGreatDoor
end
section
namespace Go.Proofs.YtpffkpaiihcffaaGreatDoor
open Go Go.Proofs Go.Proofs.YtpffkpaiihcffaaGreatDoor.VM Go.RowKit
theorem proper_l0 (l : List Cel) (x : FV) (hl : l.length ≤ 1000000) : ∀ (s : List Cel) (k : Nat),l.drop k = s →
  ref01_proper.L0 (.bool true) (.arr (l.map cellF)) (.int .i64 (k : Int)) (.int .i64 0) x =
   some (.int .i64 (match decide (lookC (match k with | 0 => none | k + 1 => l[k]?) s = 0) with | false => lookC (match k with | 0 => none | k + 1 => l[k]?) s | true => (match decide (l.length ≤ 65536) with | true => 0 | false => 14))):=by
 intro s
 induction s with
 | nil =>
  intro k hd
  have hk:=drop_nil hd
  rw [ref01_proper.L0_eq]
  simp only [fBin_lss,bindO_s,fCond_b,fLen_arr,List.length_map,fBin_gtr,lookC]
  rw [if_neg (by rw [decide_eq_true_eq];omega)]
  by_cases h : l.length ≤ 65536
  ·rw [if_neg (by rw [decide_eq_true_eq];omega)];simp [h]
  ·rw [if_pos (decide_eq_true (by omega))];simp [h]
 | cons c s ih =>
  intro k hd
  obtain ⟨hk,hc,hs⟩:=drop_cons hd
  have ej : IntKind.i64.wrap ((k : Int) + 1) = ((k + 1 : Nat) : Int):=wrap64 (by omega) (by omega)
  have ih':=ih (k + 1) hs
  simp only [hc] at ih'
  rw [ref01_proper.L0_eq]
  simp only [fBin_lss,bindO_s,fCond_b,fLen_arr,List.length_map]
  rw [if_pos (decide_eq_true (by omega)),idxC hc]
  simp only [cellF,List.getElem?_cons_succ,List.getElem?_cons_zero,bindO_s,near_d,fCond_b,fUn_not,fBin_lss,isState_d,Bool.not_not]
  cases hf : farC c with
  | true => simp [lookC,hf]
  | false =>
   have hst : (stateC c.2.2 && !decide (c.2.2 = 0)) = (!decide (c.2.2 < 1) && stateC c.2.2):=by
    rw [Bool.eq_iff_iff];simp [stateC];omega
   simp only [Bool.false_eq_true,if_false]
   by_cases h1 : c.2.2 < 1
   ·rw [if_pos (decide_eq_true h1)]
    simp [lookC,hf,hst,h1]
   ·rw [if_neg (by rw [decide_eq_true_eq];exact h1)]
    cases h2 : stateC c.2.2 with
    | false => simp [lookC,hf,hst,h1,h2]
    | true =>
     have hst' : (stateC c.2.2 && !decide (c.2.2 = 0)) = true:=by rw [hst,h2];simp [h1]
     simp only [Bool.not_true,Bool.false_eq_true,if_false,if_true]
     rw [ref01_proper.L1_eq]
     simp only [fBin_gtr,bindO_s,fCond_b]
     match k,hk,hc,ej,ih' with
     | 0,hk,hc,ej,ih' =>
      rw [if_neg (by simp),fBin_add,ej]
      simp only [bindO_s]
      rw [ih']
      simp [lookC,hf,hst']
     | k + 1,hk,hc,ej,ih' =>
      have hp : l[k]? = some l[k]:=List.getElem?_eq_getElem (by omega)
      have es : IntKind.i64.wrap (((k + 1 : Nat) : Int) - 1) = (k : Int):=by rw [show (((k + 1 : Nat) : Int) - 1) = (k : Int) by omega];exact wrap64 (by omega) (by omega)
      rw [if_pos (decide_eq_true (by omega)),idxC hc,fBin_sub,es]
      simp only [bindO_s]
      rw [idxC hp]
      have hb:=behind_d c l[k]
      simp only [cellF] at hb
      simp only [bindO_s,cellF,List.getElem?_cons_succ,List.getElem?_cons_zero,hb,fUn_not,fCond_b,fBin_add,ej]
      cases hbf : befC l[k] c with
      | false => simp [lookC,hf,hst',hp,hbf]
      | true =>
       rw [if_neg (by simp),ih']
       simp [lookC,hf,hst',hp,hbf]
theorem proper_d (l : List Cel) (x : FV) (hl : l.length ≤ 1000000) : ref01_Proper (.agg [.int .i64 0,x]) (.arr (l.map cellF)) = some (.int .i64 (properC l)):=by
 rw [ref01_Proper.eq,ref01_proper.eq]
 have h:=proper_l0 l x hl l 0 rfl
 rw [show ((0 : Nat) : Int) = 0 from rfl] at h
 simp only [fIsAgg_agg,List.length_cons,List.length_nil,fCell_zero,fCell_succ,check_d,bindO_s,fBin_neq,fCond_b,h]
 rfl
theorem field_l0 (l : List Cel) (hl : l.length ≤ 1000000) : ∀ (s : List Cel) (k : Nat),l.drop k = s → ref08_field.L0 (.arr (l.map cellF)) (.int .i64 (k : Int)) = some (.int .i64 (fieldC s)):=by
 intro s
 induction s with
 | nil =>
  intro k hd
  have hk:=drop_nil hd
  rw [ref08_field.L0_eq]
  simp only [fLen_arr,List.length_map,bindO_s,fBin_lss,fCond_b]
  rw [if_neg (by rw [decide_eq_true_eq];omega)]
  rfl
 | cons c s ih =>
  intro k hd
  obtain ⟨hk,hc,hs⟩:=drop_cons hd
  have ej : IntKind.i64.wrap ((k : Int) + 1) = ((k + 1 : Nat) : Int):=wrap64 (by omega) (by omega)
  have ih':=ih (k + 1) hs
  rw [ref08_field.L0_eq]
  simp only [fLen_arr,List.length_map,bindO_s,fBin_lss,fCond_b]
  rw [if_pos (decide_eq_true (by omega)),idxC hc]
  simp only [bindO_s,cellF,List.getElem?_cons_zero,List.getElem?_cons_succ,nine_d,fUn_not,fCond_b,fBin_lss,fBin_gtr,fBin_add,ej]
  have ih2 : ref08_field.L0 (.arr (l.map fun c => [FV.int .i64 c.1,.int .i64 c.2.1,.int .i64 c.2.2])) (.int .i64 ((k + 1 : Nat) : Int)) = some (.int .i64 (fieldC s)):=ih'
  cases hq : quietC c.2.2 with
  | false => simp [fieldC,hq]
  | true =>
   simp only [Bool.not_true,Bool.false_eq_true,if_false]
   by_cases h1 : c.1 < 2
   ·simp [fieldC,hq,inC,h1,show ¬ 2 ≤ c.1 by omega]
   ·by_cases h2 : 57 < c.1
    ·simp [fieldC,hq,inC,h1,h2,show ¬ c.1 ≤ 57 by omega]
    ·by_cases h3 : c.2.1 < -56
     ·simp [fieldC,hq,inC,h1,h2,h3,show ¬ -56 ≤ c.2.1 by omega]
     ·by_cases h4 : -1 < c.2.1
      ·simp [fieldC,hq,inC,h1,h2,h3,h4,show ¬ c.2.1 ≤ -1 by omega]
      ·rw [if_neg (by rw [decide_eq_true_eq];exact h1),if_neg (by rw [decide_eq_true_eq];exact h2),if_neg (by rw [decide_eq_true_eq];exact h3),if_neg (by rw [decide_eq_true_eq];exact h4)]
       refine Eq.trans ih2 ?_
       simp [fieldC,hq,inC,show 2 ≤ c.1 by omega,show c.1 ≤ 57 by omega,show -56 ≤ c.2.1 by omega,show c.2.1 ≤ -1 by omega]
theorem field_d (l : List Cel) (hl : l.length ≤ 1000000) : ref08_field (.arr (l.map cellF)) = some (.int .i64 (badC l)):=by
 rw [ref08_field.eq,proper_d l _ hl]
 have h:=field_l0 l hl l 0 rfl
 rw [show ((0 : Nat) : Int) = 0 from rfl] at h
 simp only [bindO_s,fBin_neq,fCond_b,h]
 unfold badC
 by_cases h : properC l = 0 <;> simp [h]
theorem last_l0 (l : List Cel) (hl : l.length ≤ 1000000) : ∀ (s : List Cel) (k : Nat) (m : Int),l.drop k = s → ref08_last.L0 (.arr (l.map cellF)) (.int .i64 m) (.int .i64 (k : Int)) = some (.int .i64 (s.foldl (fun m c => max m c.1) m)):=by
 intro s
 induction s with
 | nil =>
  intro k m hd
  have hk:=drop_nil hd
  rw [ref08_last.L0_eq]
  simp only [fLen_arr,List.length_map,bindO_s,fBin_lss,fCond_b]
  rw [if_neg (by rw [decide_eq_true_eq];omega)]
  rfl
 | cons c s ih =>
  intro k m hd
  obtain ⟨hk,hc,hs⟩:=drop_cons hd
  have ej : IntKind.i64.wrap ((k : Int) + 1) = ((k + 1 : Nat) : Int):=wrap64 (by omega) (by omega)
  rw [ref08_last.L0_eq]
  simp only [fLen_arr,List.length_map,bindO_s,fBin_lss,fCond_b]
  rw [if_pos (decide_eq_true (by omega)),idxC hc]
  simp only [bindO_s,cellF,List.getElem?_cons_zero,fMax_int,fBin_add,ej]
  exact ih (k + 1) _ hs
theorem last_d (l : List Cel) (hl : l.length ≤ 1000000) : ref08_last (.arr (l.map cellF)) = some (.int .i64 (lastI l)):=by
 rw [ref08_last.eq]
 exact last_l0 l hl l 0 0 rfl
theorem top_l0 (l : List Cel) (hl : l.length ≤ 1000000) (x : Int) : ∀ (s : List Cel) (k : Nat) (m : Int),l.drop k = s → ref08_top.L0 (.arr (l.map cellF)) (.int .i64 x) (.int .i64 m) (.int .i64 (k : Int)) = some (.int .i64 (s.foldl (fun m c => if c.1 = x then min m c.2.1 else m) m)):=by
 intro s
 induction s with
 | nil =>
  intro k m hd
  have hk:=drop_nil hd
  rw [ref08_top.L0_eq]
  simp only [fLen_arr,List.length_map,bindO_s,fBin_lss,fCond_b]
  rw [if_neg (by rw [decide_eq_true_eq];omega)]
  rfl
 | cons c s ih =>
  intro k m hd
  obtain ⟨hk,hc,hs⟩:=drop_cons hd
  have ej : IntKind.i64.wrap ((k : Int) + 1) = ((k + 1 : Nat) : Int):=wrap64 (by omega) (by omega)
  rw [ref08_top.L0_eq]
  simp only [fLen_arr,List.length_map,bindO_s,fBin_lss,fCond_b]
  rw [if_pos (decide_eq_true (by omega)),idxC hc]
  simp only [bindO_s,cellF,List.getElem?_cons_zero,List.getElem?_cons_succ,fBin_eql,fCond_b,fMin_int,fBin_add,ej,List.foldl_cons]
  by_cases h : c.1 = x
  ·rw [if_pos (decide_eq_true h),if_pos h]
   exact ih (k + 1) _ hs
  ·rw [if_neg (by rw [decide_eq_true_eq];exact h),if_neg h]
   exact ih (k + 1) _ hs
theorem top_d (l : List Cel) (hl : l.length ≤ 1000000) (x : Int) : ref08_top (.arr (l.map cellF)) (.int .i64 x) = some (.int .i64 (topI l x)):=by
 rw [ref08_top.eq]
 exact top_l0 l hl x l 0 0 rfl
theorem at_l0 (l : List Cel) (hl : l.length ≤ 1000000) (x y : Int) : ∀ (s : List Cel) (k : Nat),l.drop k = s → ref01_At.L0 (.arr (l.map cellF)) (.int .i64 x) (.int .i64 y) (.int .i64 (k : Int)) = some (.int .i64 (atI s x y)):=by
 intro s
 induction s with
 | nil =>
  intro k hd
  have hk:=drop_nil hd
  rw [ref01_At.L0_eq]
  simp only [fLen_arr,List.length_map,bindO_s,fBin_lss,fCond_b]
  rw [if_neg (by rw [decide_eq_true_eq];omega)]
  rfl
 | cons c s ih =>
  intro k hd
  obtain ⟨hk,hc,hs⟩:=drop_cons hd
  have ej : IntKind.i64.wrap ((k : Int) + 1) = ((k + 1 : Nat) : Int):=wrap64 (by omega) (by omega)
  rw [ref01_At.L0_eq]
  simp only [fLen_arr,List.length_map,bindO_s,fBin_lss,fCond_b]
  rw [if_pos (decide_eq_true (by omega)),idxC hc]
  simp only [bindO_s,cellF,List.getElem?_cons_zero,List.getElem?_cons_succ,fBin_eql,fCond_b,fBin_add,ej,atI]
  by_cases h : c.1 = x
  ·rw [if_pos (decide_eq_true h)]
   by_cases h2 : c.2.1 = y
   ·rw [if_pos (decide_eq_true h2),if_pos ⟨h,h2⟩]
   ·rw [if_neg (by rw [decide_eq_true_eq];exact h2),if_neg (fun e => h2 e.2)]
    exact ih (k + 1) hs
  ·rw [if_neg (by rw [decide_eq_true_eq];exact h),if_neg (fun e => h e.1)]
   exact ih (k + 1) hs
theorem at_d (l : List Cel) (hl : l.length ≤ 1000000) (x y : Int) : ref01_At (.arr (l.map cellF)) (.int .i64 x) (.int .i64 y) = some (.int .i64 (atI l x y)):=by
 rw [ref01_At.eq]
 exact at_l0 l hl x y l 0 rfl
end Go.Proofs.YtpffkpaiihcffaaGreatDoor
end
section
namespace Go.Proofs.YtpffkpaiihcffaaGreatDoor
open Go Go.Proofs Go.Proofs.YtpffkpaiihcffaaGreatDoor.VM Go.RowKit
theorem dm_l2 (L x1 x2 x3 : FV) : ∀ (m : Nat) (acc : List Mv),m ≤ 100 → acc.length + m ≤ 100000 → ref08_Moves.L2 L x1 x2 x3 (.int .i64 (-(m : Int) - 1)) (acc.map moveF) = ref08_Moves.L3 L x1 x2 x3 ((acc ++ repM 4 m).map moveF):=by
 intro m
 induction m with
 | zero =>
  intro acc _ _
  rw [ref08_Moves.L2_eq]
  simp only [fBin_lss,bindO_s,fCond_b]
  rw [if_neg (by rw [decide_eq_true_eq];omega)]
  simp [repM]
 | succ m ih =>
  intro acc hm ha
  have e1 : IntKind.i64.wrap (-((m + 1 : Nat) : Int) - 1 + 1) = -(m : Int) - 1:=by rw [show -((m + 1 : Nat) : Int) - 1 + 1 = -(m : Int) - 1 by omega];exact wrap64 (by omega) (by omega)
  rw [ref08_Moves.L2_eq]
  simp only [fBin_lss,bindO_s,fCond_b,fBin_add,e1]
  rw [if_pos (decide_eq_true (by omega)),List.length_map,roomM (by omega),gB_t,snocM,ih _ (by omega) (by simp only [List.length_append,List.length_cons,List.length_nil];omega)]
  simp [repM,List.replicate_succ]
theorem downD_len (a : Nat → Int) : ∀ m,(downD a m).length ≤ 2 * m
 | 0 => by simp [downD]
 | m + 1 => by
  have:=downD_len a m
  simp only [downD,List.length_append,List.length_cons]
  split <;> simp <;> omega
theorem dm_l3 (l : List Cel) (hl : l.length ≤ 1000000) (x1 : FV) (x : Int) : ∀ (m : Nat) (acc : List Mv),m ≤ 100 → acc.length + 2 * m ≤ 100000 →
  ref08_Moves.L3 (.arr (l.map cellF)) x1 (.int .i64 x) (.int .i64 (-(m : Int))) (acc.map moveF) = ref08_Moves.L3 (.arr (l.map cellF)) x1 (.int .i64 x) (.int .i64 0) ((acc ++ downD (fun k => atI l x (-(k : Int) - 1)) m).map moveF):=by
 intro m
 induction m with
 | zero =>
  intro acc _ _
  simp [downD]
 | succ m ih =>
  intro acc hm ha
  have e1 : IntKind.i64.wrap (-((m + 1 : Nat) : Int) + 1) = -(m : Int):=by rw [show -((m + 1 : Nat) : Int) + 1 = -(m : Int) by omega];exact wrap64 (by omega) (by omega)
  have e2 : -((m + 1 : Nat) : Int) = -(m : Int) - 1:=by omega
  have step : ∀ acc : List Mv,acc.length + 2 * m + 1 ≤ 100000 → ref08_Moves.L4 (.arr (l.map cellF)) x1 (.int .i64 x) (.int .i64 (-((m + 1 : Nat) : Int))) (acc.map moveF) = ref08_Moves.L3 (.arr (l.map cellF)) x1 (.int .i64 x) (.int .i64 0) ((acc ++ ((if 0 < m then (5,0) else (6,0)) :: downD (fun k => atI l x (-(k : Int) - 1)) m)).map moveF):=fun acc ha => by
   rw [ref08_Moves.L4_eq]
   simp only [fBin_lss,bindO_s,fCond_b,fBin_add,e1]
   by_cases h : 0 < m
   ·rw [if_pos (decide_eq_true (by omega)),List.length_map,roomM (by omega),gB_t,snocM,ih _ (by omega) (by simp only [List.length_append,List.length_cons,List.length_nil];omega),if_pos h]
    simp
   ·rw [if_neg (by rw [decide_eq_true_eq];omega),List.length_map,roomM (by omega),gB_t,snocM,ih _ (by omega) (by simp only [List.length_append,List.length_cons,List.length_nil];omega),if_neg h]
    simp
  rw [ref08_Moves.L3_eq,at_d l hl]
  simp only [fBin_lss,bindO_s,fCond_b,fBin_neq]
  rw [if_pos (decide_eq_true (by omega))]
  have e : downD (fun k => atI l x (-(k : Int) - 1)) (m + 1) = (if atI l x (-((m + 1 : Nat) : Int)) ≠ 0 then [(7,atI l x (-((m + 1 : Nat) : Int)))] else []) ++ ((if 0 < m then (5,0) else (6,0)) :: downD (fun k => atI l x (-(k : Int) - 1)) m):=by rw [e2];rfl
  rw [e]
  generalize atI l x (-((m + 1 : Nat) : Int)) = s
  by_cases hz : s = 0
  ·subst hz
   rw [if_neg (by simp),step acc (by omega)]
   simp
  ·rw [if_pos (decide_eq_true hz),List.length_map,roomM (by omega),gB_t,snocM,step _ (by simp only [List.length_append,List.length_cons,List.length_nil];omega)]
   simp [hz]
theorem dm_l5 (last : Int) (N : Nat) (hN : N ≤ 100) (hlast : last = (N : Int) + 2) (acc0 : List Mv) (h0 : acc0.length ≤ 90000) : ∀ (n i : Nat),i + n = N → ref08_Moves.L5 (.int .i64 last) (.int .i64 ((i : Int) + 2)) ((acc0 ++ repM 2 i).map moveF) = some (.tup [.arr ((acc0 ++ repM 2 N).map moveF),.int .i64 0]):=by
 intro n
 induction n with
 | zero =>
  intro i hi
  obtain rfl : i = N:=by omega
  rw [ref08_Moves.L5_eq]
  simp only [fBin_lss,bindO_s,fCond_b]
  rw [if_neg (by rw [decide_eq_true_eq];omega)]
 | succ n ih =>
  intro i hi
  have e1 : IntKind.i64.wrap ((i : Int) + 2 + 1) = ((i + 1 : Nat) : Int) + 2:=by rw [show (i : Int) + 2 + 1 = ((i + 1 : Nat) : Int) + 2 by omega];exact wrap64 (by omega) (by omega)
  rw [ref08_Moves.L5_eq]
  simp only [fBin_lss,bindO_s,fCond_b,fBin_add,e1]
  rw [if_pos (decide_eq_true (by omega)),List.length_map,roomM (by simp only [List.length_append,repM_len];omega),gB_t,snocM,List.append_assoc,← repM_succ]
  exact ih (i + 1) (by omega)
theorem seqD_len (cols : List (List Int)) (N : Nat) (hc : ∀ j,(cols.getD j []).length ≤ 100) : ∀ n,(seqD cols N n).length ≤ 400 * n
 | 0 => by simp [seqD]
 | n + 1 => by
  have h1:=seqD_len cols N hc n
  have h2:=colP_len (cols.getD n [])
  have h3:=hc n
  rw [seqD_succ,List.length_append,List.length_append]
  have h4 : (postM N n).length ≤ 1:=by unfold postM;split <;> simp
  omega
theorem dm_l0 (l : List Cel) (hl : l.length ≤ 1000000) (hb : badC l = 0) : ∀ (n j : Nat),j + n = (colsOf l).length →
  ref08_Moves.L0 (.arr (l.map cellF)) (.int .i64 (lastI l)) (.int .i64 ((j : Int) + 2)) ((seqD (colsOf l) (colsOf l).length j).map moveF) = some (.tup [.arr ((movP (colsOf l)).map moveF),.int .i64 0]):=by
 have hi:=field_in (bad_ok hb).2
 have hap:=proper_apart (bad_ok hb).1
 obtain ⟨hN,hc⟩:=cols_small hb
 obtain ⟨k1,k2,k3⟩:=cols_len l hi
 intro n
 induction n with
 | zero =>
  intro j hj
  obtain rfl : j = (colsOf l).length:=by omega
  have hlen:=seqD_len (colsOf l) (colsOf l).length hc (colsOf l).length
  rw [ref08_Moves.L0_eq]
  simp only [fBin_leq,bindO_s,fCond_b]
  rw [if_neg (by rw [decide_eq_true_eq];omega),movP,← seq_all]
  by_cases h2 : 2 ≤ lastI l
  ·have:=dm_l5 (lastI l) ((colsOf l).length - 1) (by omega) (by omega) (seqD (colsOf l) (colsOf l).length (colsOf l).length) (by omega) ((colsOf l).length - 1) 0 (by omega)
   rw [show repM 2 0 = [] from rfl,List.append_nil] at this
   exact this
  ·rw [ref08_Moves.L5_eq]
   simp only [fBin_lss,bindO_s,fCond_b]
   rw [if_neg (by rw [decide_eq_true_eq];omega),show (colsOf l).length - 1 = 0 by omega,show repM 2 0 = [] from rfl,List.append_nil]
 | succ n ih =>
  intro j hj
  have hlen:=seqD_len (colsOf l) (colsOf l).length hc j
  obtain ⟨t1,t2,t3⟩:=cols_top l hi j
  have hcj:=hc j
  have ea : (fun k : Nat => atI l ((j : Int) + 2) (-(k : Int) - 1)) = fun k => ((colsOf l).getD j []).getD k 0:=funext fun k => (cols_at l hi hap j k).symm
  have ex : IntKind.i64.wrap ((j : Int) + 2 + 1) = ((j + 1 : Nat) : Int) + 2:=by rw [show (j : Int) + 2 + 1 = ((j + 1 : Nat) : Int) + 2 by omega];exact wrap64 (by omega) (by omega)
  have ih':=ih (j + 1) (by omega)
  rw [seqD_succ] at ih'
  have fin : ∀ acc : List Mv,acc.length ≤ 90000 → ref08_Moves.L3 (.arr (l.map cellF)) (.int .i64 (lastI l)) (.int .i64 ((j : Int) + 2)) (.int .i64 0) (acc.map moveF) = ref08_Moves.L0 (.arr (l.map cellF)) (.int .i64 (lastI l)) (.int .i64 (((j + 1 : Nat) : Int) + 2)) ((acc ++ postM (colsOf l).length j).map moveF):=fun acc ha => by
   rw [ref08_Moves.L3_eq]
   simp only [fBin_lss,bindO_s,fCond_b,fBin_add,ex]
   rw [if_neg (by simp)]
   unfold postM
   by_cases h : j + 1 < (colsOf l).length
   ·rw [if_pos (decide_eq_true (by omega)),List.length_map,roomM (by omega),gB_t,snocM,if_pos h]
   ·rw [if_neg (by rw [decide_eq_true_eq];omega),if_neg h,List.append_nil]
  rw [ref08_Moves.L0_eq,top_d l hl]
  simp only [fBin_leq,fBin_lss,bindO_s,fCond_b]
  rw [if_pos (decide_eq_true (by omega))]
  have hcs:=col_same ((colsOf l).getD j [])
  rw [← ea] at hcs
  have hdl:=downD_len (fun k : Nat => atI l ((j : Int) + 2) (-(k : Int) - 1)) ((colsOf l).getD j []).length
  generalize hcc : ((colsOf l).getD j []).length = m at *
  by_cases hz : topI l ((j : Int) + 2) < 0
  ·obtain ⟨q,hq⟩ : ∃ q,m = q + 1:=⟨m - 1,by omega⟩
   have ht : topI l ((j : Int) + 2) = -(q : Int) - 1:=by omega
   have ht2 : topI l ((j : Int) + 2) = -(m : Int):=by omega
   rw [if_pos (decide_eq_true hz),List.length_map,roomM (by omega),gB_t,snocM,ref08_Moves.L1_eq]
   have h2:=dm_l2 (.arr (l.map cellF)) (.int .i64 (lastI l)) (.int .i64 ((j : Int) + 2)) (.int .i64 (topI l ((j : Int) + 2))) q (seqD (colsOf l) (colsOf l).length j ++ [(3,0)]) (by omega) (by simp only [List.length_append,List.length_cons,List.length_nil];omega)
   rw [← ht] at h2
   rw [h2,ht2,dm_l3 l hl _ _ m _ (by omega) (by simp only [List.length_append,List.length_cons,List.length_nil,repM_len];omega),fin _ (by simp only [List.length_append,List.length_cons,List.length_nil,repM_len];omega)]
   unfold colD at hcs
   rw [if_pos (by omega)] at hcs
   rw [← hcs,show m - 1 = q by omega] at ih'
   simp only [List.append_assoc] at ih' ⊢
   exact ih'
  ·have hm : m = 0:=by omega
   have ht2 : topI l ((j : Int) + 2) = 0:=by omega
   rw [if_neg (by rw [decide_eq_true_eq];exact hz),ref08_Moves.L1_eq,ht2,ref08_Moves.L2_eq]
   simp only [fBin_lss,bindO_s,fCond_b]
   rw [if_neg (by simp),fin _ (by omega)]
   rw [hm] at hcs
   have hnil : colP ((colsOf l).getD j []) = []:=by rw [← hcs];rfl
   rw [hnil,List.nil_append] at ih'
   exact ih'
theorem moves_d (l : List Cel) (hl : l.length ≤ 1000000) : ref08_Moves (.arr (l.map cellF)) = some (outM l (movP (colsOf l))):=by
 rw [ref08_Moves.eq,field_d l hl,last_d l hl]
 unfold outM
 simp only [bindO_s,fBin_neq,fCond_b]
 by_cases h : badC l = 0
 ·have:=dm_l0 l hl h (colsOf l).length 0 (by omega)
  rw [show seqD (colsOf l) (colsOf l).length 0 = [] from rfl] at this
  simp only [decide_eq_true h]
  rw [if_neg (by simp [h])]
  exact this
 ·simp only [decide_eq_false h]
  rw [if_pos (decide_eq_true h)]
end Go.Proofs.YtpffkpaiihcffaaGreatDoor
end
section
namespace Go.Proofs.YtpffkpaiihcffaaGreatDoor
open Go Go.Proofs Go.Proofs.YtpffkpaiihcffaaGreatDoor.VM Go.RowKit
end Go.Proofs.YtpffkpaiihcffaaGreatDoor
end
section
namespace Go.Proofs.YtpffkpaiihcffaaGreatDoor
open Go Go.Proofs Go.Proofs.YtpffkpaiihcffaaGreatDoor.VM Go.RowKit
theorem movP_len {l : List Cel} (h : badC l = 0) : (movP (colsOf l)).length ≤ 1000000:=by
 obtain ⟨h1,h2⟩:=cols_small h
 have:=seqP_len (colsOf l) h2 (colsOf l).length
 rw [movP,List.length_append,repM_len];omega
abbrev T3 : TC:=.cons (.int .i64) (.cons (.int .i64) (.cons (.int .i64) .nil))
def toC : List (Val T3) → List Cel
 | [] => []
 | v :: l => (v.1,v.2.1,v.2.2.1) :: toC l
theorem toC_cells : ∀ l : List (Val T3),l.map (cells T3) = (toC l).map cellF
 | [] => rfl
 | v :: l => by
  show cells T3 v :: l.map (cells T3) = cellF (v.1,v.2.1,v.2.2.1) :: (toC l).map cellF
  rw [toC_cells l]
  rfl
end Go.Proofs.YtpffkpaiihcffaaGreatDoor
end
section
namespace Go.Proofs.YtpffkpaiihcffaaGreatDoor
open Go Go.Proofs Go.Proofs.YtpffkpaiihcffaaGreatDoor.VM Go.RowKit
def eR (b : Bool) : Int:=match b with | true => 0 | false => 80
theorem pulA_bad {k s : Int} (h : rgtA k s = false) : pulA k s = ([],[]):=by
 have key : ∀ a b : Int,rgtA a b = true → ¬ (k = a ∧ s = b):=fun a b hab ⟨h1,h2⟩ => by subst h1;subst h2;rw [h] at hab;cases hab
 unfold pulA
 repeat rw [if_neg (key _ _ (by decide))]
theorem pulR_eq (k s : Int) : pulR k s = .tup [.agg [.str (pulA k s).1,.str (pulA k s).2],.int .i64 (eR (rgtA k s))]:=by
 unfold pulR trainF
 cases h : rgtA k s with
 | true => rfl
 | false => rw [pulA_bad h];rfl
theorem pulses_p (k s : Int) : arm_Pulses (.agg [.int .i64 k,.int .i64 s]) = some (.tup [.agg [.str (pulA k s).1,.str (pulA k s).2],.int .i64 (eR (rgtA k s))]):=by
 have e : arm_Pulses (.agg [.int .i64 k,.int .i64 s]) = pulOv [.agg [.int .i64 k,.int .i64 s]]:=(den_eq E 24 _).trans (by kernel_rfl)
 rw [e,pulOv,pulR_eq]
theorem mvsF_mv : ∀ ms : List Mv,mvsF (ms.map moveF) = some ms
 | [] => rfl
 | m :: l => by
  rw [List.map_cons,mvsF,mvsF_mv l]
  rfl
def lenM (m : Mv) : Int:=((pulA m.1 m.2).1.length : Int)
def kvM (m : Mv) : FV × FV:=(.agg [.int .i64 m.1,.int .i64 m.2],.int .i64 (lenM m))
theorem keyEq_mv (c d : Mv) : keyEq true [.int,.int] (.agg [.int .i64 c.1,.int .i64 c.2]) (kvM d).1 = some (decide (c = d)):=by
 simp only [keyEq,kvM,cellsEq,scalarEq,if_true,bindO_s,Bool.and_true]
 congr 1
 rw [Bool.eq_iff_iff]
 simp [Prod.ext_iff]
theorem keyOk_mv (c : Mv) : keyOk true [.int,.int] (.agg [.int .i64 c.1,.int .i64 c.2]) = true:=rfl
theorem find_mv (c : Mv) : ∀ L : List Mv,mFind true [.int,.int] (L.map kvM) (.agg [.int .i64 c.1,.int .i64 c.2]) = some (if c ∈ L then some (.int .i64 (lenM c)) else none)
 | [] => rfl
 | d :: L => by
  rw [List.map_cons,mFind,keyEq_mv,bindO_s]
  by_cases h : c = d
  ·subst h;simp [kvM]
  ·rw [decide_eq_false h]
   simp only [find_mv c L,List.mem_cons,h,false_or]
theorem look_mv (c : Mv) (L : List Mv) : mLook true [.int,.int] (L.map kvM) (.agg [.int .i64 c.1,.int .i64 c.2]) (.int .i64 0) = some (.int .i64 (if c ∈ L then lenM c else 0),decide (c ∈ L)):=by
 unfold mLook
 rw [keyOk_mv,find_mv]
 by_cases h : c ∈ L <;> simp [h,gB,bindO]
theorem put_mv (c : Mv) : ∀ L : List Mv,∃ L' : List Mv,mPut true [.int,.int] (L.map kvM) (.agg [.int .i64 c.1,.int .i64 c.2]) (.int .i64 (lenM c)) = some (List.map kvM L') ∧ c ∈ L'
 | [] => ⟨[c],rfl,by simp⟩
 | d :: L => by
  rw [List.map_cons,mPut,keyEq_mv,bindO_s]
  by_cases h : c = d
  ·subst h
   exact ⟨c :: L,by simp [kvM],by simp⟩
  ·obtain ⟨L',h1,h2⟩:=put_mv c L
   refine ⟨d :: L',?_,by simp [h2]⟩
   rw [decide_eq_false h]
   simp [h1,bindO]
def sumM : List Mv → Int
 | [] => 0
 | m :: l => lenM m + sumM l
theorem lenM_le (m : Mv) : 0 ≤ lenM m ∧ lenM m ≤ 128:=by
 have:=(pul_len m.1 m.2).1
 unfold lenM;omega
theorem sumM_le : ∀ l : List Mv,0 ≤ sumM l ∧ sumM l ≤ 128 * (l.length : Int)
 | [] => by simp [sumM]
 | m :: l => by
  have:=lenM_le m
  have:=sumM_le l
  simp only [sumM,List.length_cons];omega
theorem length_l0 (ms : List Mv) (hl : ms.length ≤ 1000000) : ∀ (s : List Mv) (k : Nat) (n : Int) (L : List Mv),ms.drop k = s → 0 ≤ n → n ≤ 128 * (k : Int) →
  arm_Length.L0 (.int .i64 n) (.arr (ms.map moveF)) (.int .i64 (ms.length : Int)) (.int .i64 (k : Int)) (L.map kvM) = some (.tup [.int .i64 (n + sumM s),.int .i64 0]):=by
 intro s
 induction s with
 | nil =>
  intro k n L hd _ _
  have hk:=drop_nil hd
  rw [arm_Length.L0_eq]
  simp only [bindO_s,fBin_lss,fCond_b]
  rw [if_neg (by rw [decide_eq_true_eq];omega),sumM,Int.add_zero]
 | cons c s ih =>
  intro k n L hd h0 h1
  obtain ⟨hk,hc,hs⟩:=drop_cons hd
  have ek : IntKind.i64.wrap ((k : Int) + 1) = ((k + 1 : Nat) : Int):=wrap64 (by omega) (by omega)
  have hidx : fIdxC 2 (.arr (ms.map moveF)) (.int .i64 (k : Int)) = some (moveF c):=idx_arr (by rw [List.getElem?_map,hc];rfl) rfl
  have hlen:=lenM_le c
  have en : IntKind.i64.wrap (n + lenM c) = n + lenM c:=wrap64 (by omega) (by omega)
  have tail : ∀ L' : List Mv,c ∈ L' ∨ lenM c = 0 → arm_Length.L1 (.int .i64 n) (.arr (ms.map moveF)) (.int .i64 (ms.length : Int)) (.int .i64 (k : Int)) (L'.map kvM) (.int .i64 c.1) (.int .i64 c.2) = some (.tup [.int .i64 (n + sumM (c :: s)),.int .i64 0]):=by
   intro L' hL
   have hv : (if c ∈ L' then lenM c else 0) = lenM c:=by
    rcases hL with h | h
    ·rw [if_pos h]
    ·rw [h];split <;> rfl
   rw [arm_Length.L1_eq]
   simp only [look_mv,hv,bindO_s,fBin_add,ek,en]
   rw [ih (k + 1) (n + lenM c) L' hs (by omega) (by omega),sumM,Int.add_assoc]
  rw [arm_Length.L0_eq]
  simp only [bindO_s,fBin_lss,fCond_b]
  rw [if_pos (decide_eq_true (by omega)),hidx]
  simp only [bindO_s,moveF,List.getElem?_cons_zero,List.getElem?_cons_succ,look_mv,fBin_eql,fCond_b,pulses_p,fIsTup_tup,fIsAgg_agg,List.length_cons,List.length_nil,fTup_zero,fCell_zero,fLenT_str,keyOk_mv,Nat.zero_add,Nat.reduceAdd,beq_self_eq_true,gB_t]
  by_cases hz : (if c ∈ L then lenM c else 0) = 0
  ·rw [if_pos (by rw [hz];rfl)]
   obtain ⟨L',h1,h2⟩:=put_mv c L
   rw [show ((pulA c.1 c.2).1.length : Int) = lenM c from rfl,h1,bindO_s]
   exact tail L' (.inl h2)
  ·rw [if_neg (by rw [decide_eq_true_eq];exact hz)]
   refine tail L (.inl ?_)
   by_cases h : c ∈ L
   ·exact h
   ·rw [if_neg h] at hz;exact absurd rfl hz
end Go.Proofs.YtpffkpaiihcffaaGreatDoor
end
section
namespace Go.Proofs.YtpffkpaiihcffaaGreatDoor
open Go Go.Proofs.YtpffkpaiihcffaaGreatDoor.VM
abbrev tcsArmTrains : List TC:=[(.sl 16 (.cons (.int .i64) (.cons (.int .i64) .nil))),(.sl 24 (.cons (.int .i64) (.cons (.int .i64) (.cons (.int .i64) .nil))))]
end Go.Proofs.YtpffkpaiihcffaaGreatDoor
end
section
namespace Go.Proofs.YtpffkpaiihcffaaGreatDoor
open Go Go.Proofs Go.Proofs.YtpffkpaiihcffaaGreatDoor.VM Go.RowKit
theorem fBin_cat {a b : List UInt8} (h : a.length + b.length ≤ 9223372036854775807) : fBin .add (.str a) (.str b) = some (.str (a ++ b)):=by
 show (if a.length + b.length ≤ 9223372036854775807 then some (FV.str (a ++ b)) else none) = _
 rw [if_pos h]
structure MvIn (x : FV) (ms : List Mv) : Prop where
 rows : asRows x = some (ms.map moveF)
 len : fLen x = some (.int .i64 (ms.length : Int))
 idx : ∀ (i : Nat) m,ms[i]? = some m → fIdxC 2 x (.int .i64 (i : Int)) = some (moveF m)
theorem mvIn_nil : MvIn .nilS []:=⟨rfl,rfl,fun i m h => by simp at h⟩
theorem mvIn_arr (ms : List Mv) : MvIn (.arr (ms.map moveF)) ms :=
 ⟨rfl,by simp,fun i m h => idx_arr (by rw [List.getElem?_map,h];rfl) rfl⟩
theorem trains_l1 {x0 : FV} {ms : List Mv} (hx : MvIn x0 ms) (hl : ms.length ≤ 40) (x1 x2 x3 x4 : FV) (r7 : List (List FV)) (x8 x9 : FV) : ∀ (s : List Mv) (k : Nat) (ok : Bool) (A B : List UInt8),ms.drop k = s → A.length ≤ 128 * k → B.length ≤ 128 * k →
  law08_ArmTrains.L1 x0 x1 x2 x3 x4 (.int .i64 (eR ok)) (.int .i64 (k : Int)) r7 x8 x9 (.str A) (.str B) = (match ok && s.all fun m => rgtA m.1 m.2 with
   | true => law08_ArmTrains.L3 x1 x2 x3 x4 (.int .i64 0) r7 x8 x9 (.str (A ++ catA s)) (.str (B ++ catB s))
   | false => law08_ArmTrains.L3 x1 x2 x3 x4 (.int .i64 80) r7 x8 x9 (.str []) (.str [])):=by
 intro s
 induction s with
 | nil =>
  intro k ok A B hd _ _
  have hk:=drop_nil hd
  rw [law08_ArmTrains.L1_eq]
  simp only [hx.len,bindO_s,fBin_lss,fCond_b,fBin_neq]
  rw [if_neg (by rw [decide_eq_true_eq];omega)]
  cases ok with
  | true => simp [eR,catA,catB]
  | false => simp [eR]
 | cons c s ih =>
  intro k ok A B hd hA hB
  obtain ⟨hk,hc,hs⟩:=drop_cons hd
  have ek : IntKind.i64.wrap ((k : Int) + 1) = ((k + 1 : Nat) : Int):=wrap64 (by omega) (by omega)
  have hp:=pul_len c.1 c.2
  have hp1:=hp.1
  have hp2:=hp.2
  have tail : ∀ ok' : Bool,law08_ArmTrains.L2 x0 x1 x2 x3 x4 (.int .i64 (eR ok')) (.int .i64 (k : Int)) r7 x8 x9 (.str A) (.str B) (.str (pulA c.1 c.2).1) (.str (pulA c.1 c.2).2) = (match ok' && s.all fun m => rgtA m.1 m.2 with
    | true => law08_ArmTrains.L3 x1 x2 x3 x4 (.int .i64 0) r7 x8 x9 (.str (A ++ catA (c :: s))) (.str (B ++ catB (c :: s)))
    | false => law08_ArmTrains.L3 x1 x2 x3 x4 (.int .i64 80) r7 x8 x9 (.str []) (.str [])):=by
   intro ok'
   rw [law08_ArmTrains.L2_eq,fBin_cat (by omega),bindO_s,fBin_cat (by omega),bindO_s,fBin_add,bindO_s,ek,ih (k + 1) ok' _ _ hs (by rw [List.length_append];omega) (by rw [List.length_append];omega)]
   simp only [catA,catB,List.flatMap_cons,List.append_assoc]
  rw [law08_ArmTrains.L1_eq]
  simp only [hx.len,bindO_s,fBin_lss,fCond_b]
  rw [if_pos (decide_eq_true (by omega)),hx.idx k c hc]
  simp only [bindO_s,moveF,List.getElem?_cons_zero,List.getElem?_cons_succ,pulses_p,fIsTup_tup,fIsAgg_agg,List.length_cons,List.length_nil,fTup_zero,fTup_succ,fCell_zero,fCell_succ,Nat.zero_add,Nat.reduceAdd,beq_self_eq_true,gB_t,fBin_neq,fBin_eql,fCond_b]
  cases hg : rgtA c.1 c.2 with
  | true =>
   rw [if_neg (by simp [eR]),tail ok]
   simp [hg]
  | false =>
   rw [if_pos (by simp [eR])]
   cases ok with
   | true => rw [if_pos (by simp [eR]),tail false];simp [hg]
   | false => rw [if_neg (by simp [eR]),tail false];simp
theorem trains_l5 (ms : List Mv) (hl : ms.length ≤ 1000000) (x1 x2 : FV) (r5 : List (List FV)) (x6 x7 x8 x9 : FV) : ∀ (s : List Mv) (k : Nat) (n : Int),ms.drop k = s → 0 ≤ n → n ≤ 128 * (k : Int) →
  law08_ArmTrains.L5 (.arr (ms.map moveF)) x1 x2 (.int .i64 n) (.int .i64 (k : Int)) r5 x6 x7 x8 x9 = (bindO (fBin .eql x2 (.int .i64 0)) fun v20 => fCond v20 (bindO (fBin .eql x1 (.int .i64 (n + sumM s))) fun v21 => fCond v21 (some (.bool true)) (some (.bool false))) (some (.bool false))):=by
 intro s
 induction s with
 | nil =>
  intro k n hd _ _
  have hk:=drop_nil hd
  rw [law08_ArmTrains.L5_eq]
  simp only [fLen_arr,List.length_map,bindO_s,fBin_lss,fCond_b,awake_true,sumM,Int.add_zero]
  rw [if_neg (by rw [decide_eq_true_eq];omega)]
 | cons c s ih =>
  intro k n hd h0 h1
  obtain ⟨hk,hc,hs⟩:=drop_cons hd
  have ek : IntKind.i64.wrap ((k : Int) + 1) = ((k + 1 : Nat) : Int):=wrap64 (by omega) (by omega)
  have hidx : fIdxC 2 (.arr (ms.map moveF)) (.int .i64 (k : Int)) = some (moveF c):=idx_arr (by rw [List.getElem?_map,hc];rfl) rfl
  have hlen:=lenM_le c
  have en : IntKind.i64.wrap (n + lenM c) = n + lenM c:=wrap64 (by omega) (by omega)
  rw [law08_ArmTrains.L5_eq]
  simp only [fLen_arr,List.length_map,bindO_s,fBin_lss,fCond_b]
  rw [if_pos (decide_eq_true (by omega)),hidx]
  simp only [bindO_s,moveF,List.getElem?_cons_zero,List.getElem?_cons_succ,pulses_p,fIsTup_tup,fIsAgg_agg,List.length_cons,List.length_nil,fTup_zero,fTup_succ,fCell_zero,fCell_succ,Nat.zero_add,Nat.reduceAdd,beq_self_eq_true,gB_t,fLenT_str,fBin_add,ek]
  rw [show ((pulA c.1 c.2).1.length : Int) = lenM c from rfl,en,ih (k + 1) (n + lenM c) hs (by omega) (by omega),sumM,Int.add_assoc]
theorem trains_l4 {x : FV} {l : List Cel} (hD : arm_Moves x = some (outM l (movP (colsOf l)))) (hl : badC l = 0 → (movP (colsOf l)).length ≤ 1000000) (r3 : List (List FV)) (x4 x5 x6 x7 : FV) :
  law08_ArmTrains.L4 x (fTup (outM l (movP (colsOf l))) 0) (fTup (outM l (movP (colsOf l))) 1) r3 x4 x5 x6 x7 = some (.bool true):=by
 rw [law08_ArmTrains.L4_eq,arm_Length.eq,hD]
 unfold outM
 by_cases h : badC l = 0
 ·have hn:=hl h
  have hs:=sumM_le (movP (colsOf l))
  rw [decide_eq_true h]
  simp only [bindO_s,fIsTup_tup,List.length_cons,List.length_nil,fTup_zero,fTup_succ,Nat.zero_add,Nat.reduceAdd,beq_self_eq_true,gB_t,fBin_neq,fCond_b,fLen_arr,List.length_map]
  rw [if_neg (by simp)]
  have hq:=length_l0 (movP (colsOf l)) hn (movP (colsOf l)) 0 0 [] rfl (Int.le_refl _) (by simp)
  rw [List.map_nil,show ((0 : Nat) : Int) = 0 from rfl] at hq
  rw [hq]
  simp only [bindO_s,fIsTup_tup,List.length_cons,List.length_nil,fTup_zero,fTup_succ,Nat.zero_add,Nat.reduceAdd,beq_self_eq_true,gB_t]
  have h5:=trains_l5 (movP (colsOf l)) hn (.int .i64 (0 + sumM (movP (colsOf l)))) (.int .i64 0) r3 x4 x5 x6 x7 (movP (colsOf l)) 0 0 rfl (Int.le_refl _) (by simp)
  rw [show ((0 : Nat) : Int) = 0 from rfl] at h5
  rw [if_neg (by simp),h5]
  simp
 ·rw [decide_eq_false h]
  simp only [bindO_s,fIsTup_tup,List.length_cons,List.length_nil,fTup_zero,fTup_succ,Nat.zero_add,Nat.reduceAdd,beq_self_eq_true,gB_t,fBin_neq,fBin_eql,fCond_b]
  rw [if_pos (by simpa using h)]
  simp only [bindO_s,fIsTup_tup,List.length_cons,List.length_nil,fTup_zero,fTup_succ,Nat.zero_add,Nat.reduceAdd,beq_self_eq_true,gB_t,fBin_neq,fBin_eql,fCond_b,awake_true]
  rw [if_pos (by simpa using h)]
  simp
theorem trainOf_p (ms : List Mv) (hl : ms.length ≤ 40) : arm_TrainOf (.arr (ms.map moveF)) = some (match ms.all fun m => rgtA m.1 m.2 with | true => trainF (catA ms) (catB ms) 0 | false => trainF [] [] 80):=by
 have e : arm_TrainOf (.arr (ms.map moveF)) = trainOv [.arr (ms.map moveF)]:=(den_eq E 23 _).trans (by kernel_rfl)
 rw [e]
 simp only [trainOv,asRows_arr,bindO_s,mvsF_mv,decide_eq_true (show ms.length ≤ 100000 by omega),gB_t,trainA]
 cases ms.all fun m => rgtA m.1 m.2 with
 | false => rfl
 | true => rw [foldT_eq ms [] [] (by simp;omega)];rfl
theorem armTrains_law {x0 x1 : FV} {ms : List Mv} {l : List Cel} (hx : MvIn x0 ms) (hlen : fLen x1 = some (.int .i64 (l.length : Int))) (hD : l.length ≤ 60 → ref08_Moves x1 = some (outM l (movP (colsOf l)))) (hP : l.length ≤ 60 → arm_Moves x1 = some (outM l (movP (colsOf l)))) : law08_ArmTrains x0 x1 = some (.bool true):=by
 rw [law08_ArmTrains.eq]
 simp only [hx.len,hlen,bindO_s,fBin_gtr,fCond_b,awake_true]
 by_cases h1 : (40 : Int) < (ms.length : Int)
 ·rw [if_pos (decide_eq_true h1)]
 rw [if_neg (by rw [decide_eq_true_eq];exact h1)]
 by_cases h2 : (60 : Int) < (l.length : Int)
 ·rw [if_pos (decide_eq_true h2)]
 rw [if_neg (by rw [decide_eq_true_eq];exact h2),law08_ArmTrains.L0_eq,hD (by omega),bindO_s,hx.rows,bindO_s]
 have h3 : fIsTup 2 (outM l (movP (colsOf l))) = true:=by unfold outM;cases decide (badC l = 0) <;> rfl
 have h4 : rowsSz 2 (ms.map moveF) = true:=rowsSz_map moveF_len ms
 have h5 : decide ((0 + (ms.map moveF).length) * 16 ≤ room) = true:=by rw [Nat.zero_add,List.length_map];exact roomM (by omega)
 have h4':=trains_l4 (hP (by omega)) (fun h => movP_len h) ([] ++ ms.map moveF)
 rw [h3,h4,h5,gB_t,gB_t,gB_t,List.nil_append,trainOf_p ms (by omega),bindO_s]
 rw [List.nil_append] at h4'
 cases ha : ms.all fun m => rgtA m.1 m.2 with
 | true =>
  simp only [trainF,fIsTup_tup,fIsAgg_agg,List.length_cons,List.length_nil,fTup_zero,fTup_succ,fCell_zero,fCell_succ,Nat.zero_add,Nat.reduceAdd,beq_self_eq_true,gB_t]
  have:=trains_l1 hx (by omega) x1 (fTup (outM l (movP (colsOf l))) 0) (fTup (outM l (movP (colsOf l))) 1) (.int .i64 0) (ms.map moveF) (.str (catA ms)) (.str (catB ms)) ms 0 true [] [] rfl (by simp) (by simp)
  rw [ha] at this
  simp only [eR,Bool.and_self,List.nil_append] at this
  rw [show ((0 : Nat) : Int) = 0 from rfl] at this
  rw [this,law08_ArmTrains.L3_eq]
  simp only [fBin_neq,bindO_s,fCond_b,fAggBin,cellsEq,scalarEq]
  simp [h4']
 | false =>
  simp only [trainF,fIsTup_tup,fIsAgg_agg,List.length_cons,List.length_nil,fTup_zero,fTup_succ,fCell_zero,fCell_succ,Nat.zero_add,Nat.reduceAdd,beq_self_eq_true,gB_t]
  have:=trains_l1 hx (by omega) x1 (fTup (outM l (movP (colsOf l))) 0) (fTup (outM l (movP (colsOf l))) 1) (.int .i64 80) (ms.map moveF) (.str []) (.str []) ms 0 true [] [] rfl (by simp) (by simp)
  rw [ha] at this
  simp only [eR,Bool.and_false] at this
  rw [show ((0 : Nat) : Int) = 0 from rfl] at this
  rw [this,law08_ArmTrains.L3_eq]
  simp only [fBin_neq,bindO_s,fCond_b,fAggBin,cellsEq,scalarEq]
  simp [h4']
theorem moves_nil_d : ref08_Moves .nilS = some (outM [] (movP (colsOf []))):=(den_cv E _ [.nilS]).of 400 _ (by kernel_rfl)
theorem moves_nil_p : arm_Moves .nilS = some (outM [] (movP (colsOf []))):=(den_cv E _ [.nilS]).of 400 _ (by kernel_rfl)
abbrev TM2 : TC:=.cons (.int .i64) (.cons (.int .i64) .nil)
def toM : List (Val TM2) → List Mv
 | [] => []
 | v :: l => (v.1,v.2.1) :: toM l
theorem toM_cells : ∀ l : List (Val TM2),l.map (cells TM2) = (toM l).map moveF
 | [] => rfl
 | v :: l => by
  show cells TM2 v :: l.map (cells TM2) = moveF (v.1,v.2.1) :: (toM l).map moveF
  rw [toM_cells l]
  rfl
theorem armTrains_pure (x : Vals tcsArmTrains) (h : wfs tcsArmTrains x) : den E 6 (argsF tcsArmTrains x) = some (.bool true):=by
 obtain ⟨o,p,u⟩:=x
 have k0 : ∀ o : Option (List (Val TM2)),∃ (y : FV) (ms : List Mv),(match o with | none => FV.nilS | some l => .arr (l.map (cells TM2))) = y ∧ MvIn y ms:=fun o => by
  cases o with
  | none => exact ⟨.nilS,[],rfl,mvIn_nil⟩
  | some l =>
   refine ⟨_,toM l,rfl,?_⟩
   show MvIn (.arr (l.map (cells TM2))) (toM l)
   rw [toM_cells]
   exact mvIn_arr _
 have k1 : ∀ p : Option (List (Val T3)),∃ (y : FV) (cs : List Cel),(match p with | none => FV.nilS | some l => .arr (l.map (cells T3))) = y ∧ fLen y = some (.int .i64 (cs.length : Int)) ∧ (cs.length ≤ 60 → ref08_Moves y = some (outM cs (movP (colsOf cs)))) ∧ (cs.length ≤ 60 → arm_Moves y = some (outM cs (movP (colsOf cs)))):=fun p => by
  cases p with
  | none => exact ⟨.nilS,[],rfl,rfl,fun _ => moves_nil_d,fun _ => moves_nil_p⟩
  | some l =>
   refine ⟨_,toC l,rfl,?_⟩
   show fLen (.arr (l.map (cells T3))) = _ ∧ (_ → ref08_Moves (.arr (l.map (cells T3))) = _) ∧ (_ → arm_Moves (.arr (l.map (cells T3))) = _)
   rw [toC_cells]
   exact ⟨by simp,fun h => moves_d _ (by omega),fun h => moves_p _ (by omega)⟩
 obtain ⟨y0,ms,e0,h0⟩:=k0 o
 obtain ⟨y1,cs,e1,h1,h2,h3⟩:=k1 p
 have e : argsF tcsArmTrains (o,p,u) = [y0,y1]:=by
  rw [← e0,← e1]
  cases o <;> cases p <;> rfl
 rw [e]
 exact armTrains_law h0 h1 h2 h3
end Go.Proofs.YtpffkpaiihcffaaGreatDoor
end
