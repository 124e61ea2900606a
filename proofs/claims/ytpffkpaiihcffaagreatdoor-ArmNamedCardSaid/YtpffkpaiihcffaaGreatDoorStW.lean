/- Steps of the proof: The codes of the types of the law ArmStands's parameters; The document's Canon (rametref01), the law's comparison of lists; The document's Canon; the law's comparison; both arms; Both arms, both After, the law ArmStands; Both After; the law ArmStands; The codes of the types of the law ArmNamed's parameters; Names of moves, the program's and the document's; the law ArmNamed. -/
import Derived.Test.YtpffkpaiihcffaaGreatDoorEnv
import Derived.Test.YtpffkpaiihcffaaGreatDoorRow
import Derived.Test.YtpffkpaiihcffaaGreatDoorCode0
import Derived.Test.YtpffkpaiihcffaaGreatDoorKit
import Derived.Test.YtpffkpaiihcffaaGreatDoorCel
import Derived.Test.YtpffkpaiihcffaaGreatDoorOvk
set_option linter.unusedVariables false
set_option linter.unusedSimpArgs false
section
namespace Go.Proofs.YtpffkpaiihcffaaGreatDoor
open Go Go.Proofs.YtpffkpaiihcffaaGreatDoor.VM
end Go.Proofs.YtpffkpaiihcffaaGreatDoor
end
section
namespace Go.Proofs.YtpffkpaiihcffaaGreatDoor
open Go Go.Proofs Go.Proofs.YtpffkpaiihcffaaGreatDoor.VM Go.RowKit
end Go.Proofs.YtpffkpaiihcffaaGreatDoor
end
section
namespace Go.Proofs.YtpffkpaiihcffaaGreatDoor
open Go Go.Proofs Go.Proofs.YtpffkpaiihcffaaGreatDoor.VM Go.RowKit
end Go.Proofs.YtpffkpaiihcffaaGreatDoor
end
section
namespace Go.Proofs.YtpffkpaiihcffaaGreatDoor
open Go Go.Proofs Go.Proofs.YtpffkpaiihcffaaGreatDoor.VM Go.RowKit
end Go.Proofs.YtpffkpaiihcffaaGreatDoor
end
section
namespace Go.Proofs.YtpffkpaiihcffaaGreatDoor
open Go Go.Proofs Go.Proofs.YtpffkpaiihcffaaGreatDoor.VM Go.RowKit
def wordT : List (List UInt8 × Int):=[([48,48,48,48],9),([48,48,48,49],10),([48,48,49],11),([48,49,48],12),([48,49,49],17),([49,48,48],18),([49,48,49],19),([49,49,48],20),([49,49,49],25)]
noncomputable def wordL (s j : Int) : R:=cells_Word.L0 (.int .i64 s) (.str [48,48,48,48]) (.int .i64 9) (.str [48,48,48,49]) (.int .i64 10) (.str [48,48,49]) (.int .i64 11) (.str [48,49,48]) (.int .i64 12) (.str [48,49,49]) (.int .i64 17) (.str [49,48,48]) (.int .i64 18) (.str [49,48,49]) (.int .i64 19) (.str [49,49,48]) (.int .i64 20) (.str [49,49,49]) (.int .i64 25) (.int .i64 j)
theorem word_end (s : Int) : wordL s 9 = some (.tup [.str [],.bool false]):=by
 unfold wordL
 rw [cells_Word.L0_eq]
 simp
theorem word_step (s : Int) (j : Nat) (p : List UInt8 × Int) (h : wordT[j]? = some p) : wordL s (j : Int) = if p.2 = s then some (.tup [.str (49 :: p.1),.bool true]) else wordL s ((j + 1 : Nat) : Int):=by
 have hj : j < 9:=(List.getElem?_eq_some_iff.1 h).1
 have ej : IntKind.i64.wrap ((j : Int) + 1) = ((j + 1 : Nat) : Int):=wrap64 (by omega) (by omega)
 unfold wordL
 rw [cells_Word.L0_eq]
 simp only [fBin_lss,bindO_s,fCond_b,asNat_nat,ej,fBin_add]
 rw [if_pos (by simp;omega)]
 have fs : ∀ b : List UInt8,b.length ≤ 9 → fBin .add (.str [49]) (.str b) = some (.str (49 :: b)):=fun b hb => by simp [fBin];omega
 match j,hj,h with
 | 0,_,h | 1,_,h | 2,_,h | 3,_,h | 4,_,h | 5,_,h | 6,_,h | 7,_,h | 8,_,h =>
  cases h
  simp [fs]
theorem word_p (s : Int) : ∃ w,cells_Word (.int .i64 s) = some (.tup [.str w,.bool (quietC s)]):=by
 rw [cells_Word.eq]
 change ∃ w,wordL s ((0 : Nat) : Int) = _
 rw [word_step s 0 _ rfl,word_step s 1 _ rfl,word_step s 2 _ rfl,word_step s 3 _ rfl,word_step s 4 _ rfl,word_step s 5 _ rfl,word_step s 6 _ rfl,word_step s 7 _ rfl,word_step s 8 _ rfl,show ((8 + 1 : Nat) : Int) = 9 from rfl,word_end]
 simp only [eq_comm (b:=s)]
 unfold quietC
 by_cases h0 : s = 9
 ·subst h0;exact ⟨_,rfl⟩
 by_cases h1 : s = 10
 ·subst h1;exact ⟨_,rfl⟩
 by_cases h2 : s = 11
 ·subst h2;exact ⟨_,rfl⟩
 by_cases h3 : s = 12
 ·subst h3;exact ⟨_,rfl⟩
 by_cases h4 : s = 17
 ·subst h4;exact ⟨_,rfl⟩
 by_cases h5 : s = 18
 ·subst h5;exact ⟨_,rfl⟩
 by_cases h6 : s = 19
 ·subst h6;exact ⟨_,rfl⟩
 by_cases h7 : s = 20
 ·subst h7;exact ⟨_,rfl⟩
 by_cases h8 : s = 25
 ·subst h8;exact ⟨_,rfl⟩
 exact ⟨[],by simp [h0,h1,h2,h3,h4,h5,h6,h7,h8]⟩
theorem word_d (s : Int) : ∃ w,ref01_Word (.int .i64 s) = some (.tup [.str w,.bool (quietC s)]):=by
 rw [ref01_Word.eq]
 simp only [fBin_eql,bindO_s,fCond_b]
 unfold quietC
 by_cases h0 : s = 9
 ·subst h0;exact ⟨_,rfl⟩
 by_cases h1 : s = 10
 ·subst h1;exact ⟨_,rfl⟩
 by_cases h2 : s = 11
 ·subst h2;exact ⟨_,rfl⟩
 by_cases h3 : s = 12
 ·subst h3;exact ⟨_,rfl⟩
 by_cases h4 : s = 17
 ·subst h4;exact ⟨_,rfl⟩
 by_cases h5 : s = 18
 ·subst h5;exact ⟨_,rfl⟩
 by_cases h6 : s = 19
 ·subst h6;exact ⟨_,rfl⟩
 by_cases h7 : s = 20
 ·subst h7;exact ⟨_,rfl⟩
 by_cases h8 : s = 25
 ·subst h8;exact ⟨_,rfl⟩
 exact ⟨[],by simp [h0,h1,h2,h3,h4,h5,h6,h7,h8]⟩
theorem nine_d (s : Int) : ref08_Nine (.int .i64 s) = some (.bool (quietC s)):=by
 obtain ⟨w,h⟩:=word_d s
 rw [ref08_Nine.eq,h]
 rfl
end Go.Proofs.YtpffkpaiihcffaaGreatDoor
end
section
namespace Go.Proofs.YtpffkpaiihcffaaGreatDoor
open Go Go.Proofs.YtpffkpaiihcffaaGreatDoor.VM
abbrev tcsArmNamed : List TC:=[.str]
end Go.Proofs.YtpffkpaiihcffaaGreatDoor
end
section
namespace Go.Proofs.YtpffkpaiihcffaaGreatDoor
open Go Go.Proofs Go.Proofs.YtpffkpaiihcffaaGreatDoor.VM Go.RowKit
def decS (s : Int) : List UInt8:=if s = 9 then [57] else if s = 10 then [49,48] else if s = 11 then [49,49] else if s = 12 then [49,50] else if s = 17 then [49,55] else if s = 18 then [49,56] else if s = 19 then [49,57] else if s = 20 then [50,48] else [50,53]
theorem quiet_cases {s : Int} (h : quietC s = true) : s = 9 ∨ s = 10 ∨ s = 11 ∨ s = 12 ∨ s = 17 ∨ s = 18 ∨ s = 19 ∨ s = 20 ∨ s = 25:=by
 simp only [quietC,Bool.or_eq_true,decide_eq_true_eq] at h;omega
theorem itoa_q {s : Int} (h : quietC s = true) : strconv_Itoa (.int .i64 s) = some (.str (decS s)):=by
 rcases quiet_cases h with rfl | rfl | rfl | rfl | rfl | rfl | rfl | rfl | rfl
 ·exact (den_cv E 54 _).of 400 _ (by kernel_rfl)
 ·exact (den_cv E 54 _).of 400 _ (by kernel_rfl)
 ·exact (den_cv E 54 _).of 400 _ (by kernel_rfl)
 ·exact (den_cv E 54 _).of 400 _ (by kernel_rfl)
 ·exact (den_cv E 54 _).of 400 _ (by kernel_rfl)
 ·exact (den_cv E 54 _).of 400 _ (by kernel_rfl)
 ·exact (den_cv E 54 _).of 400 _ (by kernel_rfl)
 ·exact (den_cv E 54 _).of 400 _ (by kernel_rfl)
 ·exact (den_cv E 54 _).of 400 _ (by kernel_rfl)
theorem digits_q {s : Int} (h : quietC s = true) : ref01_Digits (.int .i64 s) = some (.str (decS s)):=by
 rcases quiet_cases h with rfl | rfl | rfl | rfl | rfl | rfl | rfl | rfl | rfl
 ·exact (den_cv E 56 _).of 400 _ (by kernel_rfl)
 ·exact (den_cv E 56 _).of 400 _ (by kernel_rfl)
 ·exact (den_cv E 56 _).of 400 _ (by kernel_rfl)
 ·exact (den_cv E 56 _).of 400 _ (by kernel_rfl)
 ·exact (den_cv E 56 _).of 400 _ (by kernel_rfl)
 ·exact (den_cv E 56 _).of 400 _ (by kernel_rfl)
 ·exact (den_cv E 56 _).of 400 _ (by kernel_rfl)
 ·exact (den_cv E 56 _).of 400 _ (by kernel_rfl)
 ·exact (den_cv E 56 _).of 400 _ (by kernel_rfl)
theorem decS_len (s : Int) : (decS s).length ≤ 2:=by
 unfold decS
 repeat' split
 all_goals simp
theorem addS {a b : List UInt8} (h : a.length + b.length ≤ 100) : fBin .add (.str a) (.str b) = some (.str (a ++ b)):=by simp [fBin];omega
def putN : List UInt8:=[112,117,116]
def eraseN : List UInt8:=[101,114,97,115,101]
def foundN (k s e : Int) : FV:=.tup [.agg [.int .i64 k,.int .i64 s],.int .i64 e]
def namS (n : List UInt8) : Nat → Int → FV
 | 0,_ => foundN 0 0 80
 | f + 1,s => if quietC s = true then (if n = putN ++ decS s then foundN 7 s 0 else if n = eraseN ++ decS s then foundN 8 s 0 else namS n f (s + 1)) else namS n f (s + 1)
def namW (n : List UInt8) : List (List UInt8) → Int → FV
 | [],_ => namS n 17 9
 | w :: ws,j => if n = w then foundN j 0 0 else namW n ws (j + 1)
theorem named_p1 (n : List UInt8) (x2 x3 : FV) (r4 : List (List FV)) : ∀ (f : Nat) (s : Int),s + f = 26 → 0 ≤ s → arm_Named.L1 (.str n) (.int .i64 s) x2 x3 r4 = some (namS n f s):=by
 intro f
 induction f with
 | zero =>
  intro s hs h0
  rw [arm_Named.L1_eq]
  simp only [fBin_leq,bindO_s,fCond_b]
  rw [if_neg (by simp;omega)]
  rfl
 | succ f ih =>
  intro s hs h0
  have es : IntKind.i64.wrap (s + 1) = s + 1:=wrap64 (by omega) (by omega)
  have ih':=ih (s + 1) (by omega) (by omega)
  obtain ⟨w,hw⟩:=word_p s
  rw [arm_Named.L1_eq]
  simp only [fBin_leq,bindO_s,fCond_b,hw,fIsTup_tup,List.length_cons,List.length_nil,fTup_zero,fTup_succ,fUn_not,fBin_add,es,ih',Nat.zero_add,Nat.reduceAdd,beq_self_eq_true,gB_t]
  rw [if_pos (by simp;omega)]
  simp only [namS]
  cases hq : quietC s with
  | false => simp
  | true =>
   have hl:=decS_len s
   simp only [itoa_q hq,bindO_s,addS (show ([112,117,116] : List UInt8).length + (decS s).length ≤ 100 by simp;omega),addS (show ([101,114,97,115,101] : List UInt8).length + (decS s).length ≤ 100 by simp;omega),fBin_eqlS,fCond_b,Bool.not_true,Bool.false_eq_true,if_false,if_true]
   show (if decide (n = putN ++ decS s) = true then _ else if decide (n = eraseN ++ decS s) = true then _ else _) = _
   by_cases h1 : n = putN ++ decS s
   ·rw [if_pos (decide_eq_true h1),if_pos h1];rfl
   ·rw [if_neg (by simpa using h1),if_neg h1]
    by_cases h2 : n = eraseN ++ decS s
    ·rw [if_pos (decide_eq_true h2),if_pos h2];rfl
    ·rw [if_neg (by simpa using h2),if_neg h2]
theorem named_d1 (n : List UInt8) (x2 x3 : FV) (r4 : List (List FV)) : ∀ (f : Nat) (s : Int),s + f = 26 → 0 ≤ s → ref08_Named.L1 (.str n) (.int .i64 s) x2 x3 r4 = some (namS n f s):=by
 intro f
 induction f with
 | zero =>
  intro s hs h0
  rw [ref08_Named.L1_eq]
  simp only [fBin_leq,bindO_s,fCond_b]
  rw [if_neg (by simp;omega)]
  rfl
 | succ f ih =>
  intro s hs h0
  have es : IntKind.i64.wrap (s + 1) = s + 1:=wrap64 (by omega) (by omega)
  have ih':=ih (s + 1) (by omega) (by omega)
  rw [ref08_Named.L1_eq,ref08_Named.L2_eq]
  simp only [fBin_leq,bindO_s,fCond_b,nine_d,fBin_add,es,ih']
  rw [if_pos (by simp;omega)]
  simp only [namS]
  cases hq : quietC s with
  | false => simp
  | true =>
   have hl:=decS_len s
   simp only [digits_q hq,bindO_s,addS (show ([112,117,116] : List UInt8).length + (decS s).length ≤ 100 by simp;omega),addS (show ([101,114,97,115,101] : List UInt8).length + (decS s).length ≤ 100 by simp;omega),fBin_eqlS,fCond_b,Bool.not_true,Bool.false_eq_true,if_false,if_true]
   show (if decide (n = putN ++ decS s) = true then _ else if decide (n = eraseN ++ decS s) = true then _ else _) = _
   by_cases h1 : n = putN ++ decS s
   ·rw [if_pos (decide_eq_true h1),if_pos h1];rfl
   ·rw [if_neg (by simpa using h1),if_neg h1]
    by_cases h2 : n = eraseN ++ decS s
    ·rw [if_pos (decide_eq_true h2),if_pos h2];rfl
    ·rw [if_neg (by simpa using h2),if_neg h2]
def strR (w : List UInt8) : List FV:=[.str w]
theorem named_p0 (n : List UInt8) (ws : List (List UInt8)) (hw : ws.length ≤ 100) (x3 x4 : FV) : ∀ (t : List (List UInt8)) (j : Nat),ws.drop j = t → arm_Named.L0 (.str n) (.int .i64 (ws.length : Int)) (.int .i64 (j : Int)) x3 x4 (ws.map strR) = some (namW n t j):=by
 intro t
 induction t with
 | nil =>
  intro j hd
  have hj:=drop_nil hd
  rw [arm_Named.L0_eq]
  simp only [fBin_lss,bindO_s,fCond_b]
  rw [if_neg (by simp;omega),named_p1 n _ _ _ 17 9 (by omega) (by omega)]
  rfl
 | cons w t ih =>
  intro j hd
  obtain ⟨hj,hc,ht⟩:=drop_cons hd
  have ej : IntKind.i64.wrap ((j : Int) + 1) = ((j + 1 : Nat) : Int):=wrap64 (by omega) (by omega)
  rw [arm_Named.L0_eq,rIdx_at (by simpa using hj),bindO_s,rGet_at (c:=strR w) (by rw [List.getElem?_map,hc];rfl)]
  simp only [fBin_lss,bindO_s,fCond_b,strR,List.getElem?_cons_zero,fBin_eqlS,fBin_add,ej]
  rw [if_pos (by simp;omega)]
  simp only [namW]
  by_cases h : n = w
  ·rw [if_pos (decide_eq_true h),if_pos h];rfl
  ·rw [if_neg (by simpa using h),if_neg h]
   exact ih (j + 1) ht
theorem named_d0 (n : List UInt8) (ws : List (List UInt8)) (hw : ws.length ≤ 100) (x2 x3 : FV) : ∀ (t : List (List UInt8)) (j : Nat),ws.drop j = t → ref08_Named.L0 (.str n) (.int .i64 (j : Int)) x2 x3 (ws.map strR) = some (namW n t j):=by
 intro t
 induction t with
 | nil =>
  intro j hd
  have hj:=drop_nil hd
  rw [ref08_Named.L0_eq]
  simp only [fBin_lss,bindO_s,fCond_b,List.length_map]
  rw [if_neg (by simp;omega),named_d1 n _ _ _ 17 9 (by omega) (by omega)]
  rfl
 | cons w t ih =>
  intro j hd
  obtain ⟨hj,hc,ht⟩:=drop_cons hd
  have ej : IntKind.i64.wrap ((j : Int) + 1) = ((j + 1 : Nat) : Int):=wrap64 (by omega) (by omega)
  rw [ref08_Named.L0_eq,rIdx_at (by simpa using hj),bindO_s,rGet_at (c:=strR w) (by rw [List.getElem?_map,hc];rfl)]
  simp only [fBin_lss,bindO_s,fCond_b,strR,List.getElem?_cons_zero,fBin_eqlS,fBin_add,ej,List.length_map]
  rw [if_pos (by simp;omega)]
  simp only [namW]
  by_cases h : n = w
  ·rw [if_pos (decide_eq_true h.symm),if_pos h];rfl
  ·rw [if_neg (by simpa using fun e => h e.symm),if_neg h]
   exact ih (j + 1) ht
def wordsN : List (List UInt8):=[[114,101,115,116],[102,111,114,116,104],[98,97,99,107],[114,105,115,101],[117,112],[100,111,119,110],[115,105,110,107]]
theorem named_p (n : List UInt8) : arm_Named (.str n) = some (namW n wordsN 0):=by
 rw [arm_Named.eq]
 exact named_p0 n wordsN (by decide) _ _ wordsN 0 rfl
theorem named_d (n : List UInt8) : ref08_Named (.str n) = some (namW n wordsN 0):=by
 rw [ref08_Named.eq]
 exact named_d0 n wordsN (by decide) _ _ wordsN 0 rfl
theorem namS_is (n : List UInt8) : ∀ (f : Nat) (s : Int),∃ a b e,namS n f s = foundN a b e
 | 0,s => ⟨0,0,80,rfl⟩
 | f + 1,s => by
  simp only [namS]
  split
  ·split
   ·exact ⟨_,_,_,rfl⟩
   ·split
    ·exact ⟨_,_,_,rfl⟩
    ·exact namS_is n f (s + 1)
  ·exact namS_is n f (s + 1)
theorem namW_is (n : List UInt8) : ∀ (ws : List (List UInt8)) (j : Int),∃ a b e,namW n ws j = foundN a b e
 | [],j => namS_is n 17 9
 | w :: ws,j => by
  simp only [namW]
  split
  ·exact ⟨_,_,_,rfl⟩
  ·exact namW_is n ws (j + 1)
theorem armNamed_law (n : List UInt8) : law08_ArmNamed (.str n) = some (.bool true):=by
 obtain ⟨a,b,e,h⟩:=namW_is n wordsN 0
 have hagg : fAggBin [.int,.int] .eql [FV.int .i64 a,.int .i64 b] [FV.int .i64 a,.int .i64 b] = some (.bool true):=by simp [fAggBin,cellsEq,scalarEq]
 rw [law08_ArmNamed.eq,named_p,named_d,h]
 simp only [foundN,bindO_s,fIsTup_tup,List.length_cons,List.length_nil,fTup_zero,fTup_succ,fIsAgg_agg,fCell_zero,fCell_succ,Nat.zero_add,Nat.reduceAdd,beq_self_eq_true,gB_t,hagg,fCond_b,fBin_eql,ready_true]
 simp
theorem armNamed_pure (x : Vals tcsArmNamed) (h : wfs tcsArmNamed x) : den E 8 (argsF tcsArmNamed x) = some (.bool true):=by
 obtain ⟨n,u⟩:=x
 exact armNamed_law n
end Go.Proofs.YtpffkpaiihcffaaGreatDoor
end
