/- Steps of the proof: Names: both programs' words for them. Machines: ports, rows, the question Check. Machines: the question Check, in both programs. Machines run: both programs' runs and steps. Machines run: the law MachRuns; Nets: both programs' words for books of machines, parts, links and pins. Nets: links, pins, whether every pin is fed. Nets: pins at the rim; is every pin fed. Orders: links without delay leave no ring. Orders: the program's queue. Nets: the question CheckNet, in both programs; the law MachChecks. -/
import Derived.Test.YtelcbakleaaneaaCode0
import Derived.Test.YtelcbakleaaneaaKit
import Derived.Lib.DecodeN
set_option linter.unusedVariables false
set_option linter.unusedSimpArgs false
set_option linter.unusedSectionVars false
section
section
namespace Go.Proofs.Ytelcbakleaaneaa
open Go Go.Proofs.Ytelcbakleaaneaa.VM
abbrev Str:=List UInt8
def S (s:Str):List FV:=[.str s]
@[simp] theorem S_len (s:Str):(S s).length = 1:=rfl
@[simp] theorem S_zero (s:Str):(S s)[0]? = some (.str s):=rfl
def alnumN (n:Nat):Bool:=(decide (65 ≤ n) && decide (n ≤ 90)) || ((decide (97 ≤ n) && decide (n ≤ 122)) || (decide (48 ≤ n) && decide (n ≤ 57)))
def alnum (b:UInt8):Bool:=alnumN b.toNat
def isNm (s:Str):Bool:=s.all alnum && (decide (1 ≤ s.length) && decide (s.length ≤ 16))
theorem decode_low (s:ByteArray) (i:Nat) (h:(s.get! i).toNat < 128):Utf8.decode s i = ((s.get! i).toNat,1):=by
 rw [Lib.decode_at];simp [Lib.decodeN,h]
theorem decode_high (s:ByteArray) (i:Nat) (h:¬ (s.get! i).toNat < 128):128 ≤ (Utf8.decode s i).1:=by
 rw [Lib.decode_at]
 simp only [Lib.decodeN,h,if_false]
 repeat' split
 all_goals (first | omega | (simp only;omega))
theorem get_bang {s:Str} {i:Nat} {b:UInt8} (h:s[i]? = some b):(ByteArray.mk s.toArray).get! i = b:=by
 have hl:i < s.length:=by
  rcases Nat.lt_or_ge i s.length with h1 | h1
  ·exact h1
  ·rw [List.getElem?_eq_none h1] at h;cases h
 rw [List.getElem?_eq_getElem hl] at h
 cases h
 simp [ByteArray.get!,hl]
theorem fNext_end {s:Str} {i:Nat} (h:¬ i < s.length):fNext (.str s) i = some (false,0,i):=by simp [fNext,h]
theorem fNext_low {s:Str} {i:Nat} {b:UInt8} (h:s[i]? = some b) (hi:i < s.length) (hb:b.toNat < 128):fNext (.str s) i = some (true,(b.toNat:Int),i + 1):=by
 simp only [fNext,hi,if_true]
 rw [decode_low _ _ (by rw [get_bang h];exact hb),get_bang h]
theorem fNext_high {s:Str} {i:Nat} {b:UInt8} (h:s[i]? = some b) (hi:i < s.length) (hb:¬ b.toNat < 128):∃ r p:Nat,128 ≤ r ∧ fNext (.str s) i = some (true,(r:Int),p):=by
 simp only [fNext,hi,if_true]
 exact ⟨_,_,decode_high _ _ (by rw [get_bang h];exact hb),rfl⟩
theorem mach_isName_L0 {s:Str} (hl:s.length < 1000000000000000):∀ (t:Str) (k:Nat),k ≤ s.length → s.drop k = t →
  mach_isName.L0 (.int .i64 (k:Int)) (.str s) k = some (.bool (t.all alnum && (decide (1 ≤ s.length) && decide (s.length ≤ 16)))):=by
 intro t
 induction t with
 | nil =>
  intro k hkl hd
  obtain rfl:k = s.length:=by have:=drop_nil hd;omega
  rw [mach_isName.L0_eq,fNext_end (drop_nil hd)]
  simp only [bindO_s,fCond_b,fBin_geq,fBin_leq,Bool.false_eq_true,if_false,List.all_nil,Bool.true_and]
  by_cases h1:(1:Int) ≤ (s.length:Int)
  ·simp only [h1,decide_true,if_true,show 1 ≤ s.length by omega,Bool.true_and]
   rw [show decide ((s.length:Int) ≤ 16) = decide (s.length ≤ 16) by congr 1;exact propext (by omega)]
  ·simp only [h1,decide_false,Bool.false_eq_true,if_false,show ¬ 1 ≤ s.length by omega,Bool.false_and]
 | cons b t ih =>
  intro k hkl hd
  obtain ⟨hk,hn,hs⟩:=drop_cons hd
  have e:IntKind.i64.wrap ((k:Int) + 1) = ((k + 1:Nat):Int):=wrap64 (by omega) (by omega)
  have ih':=ih (k + 1) (by omega) hs
  rw [mach_isName.L0_eq]
  by_cases hb:b.toNat < 128
  ·rw [fNext_low hn hk hb]
   simp only [bindO_s,fCond_b,fBin_geq,fBin_leq,fUn_not,fBin_add,e,ih',decide_eq_true_eq,Bool.not_eq_true',decide_eq_false_iff_not,Bool.not_true,Bool.not_false,Bool.false_eq_true,if_true,if_false,List.all_cons]
   by_cases h1:65 ≤ (b.toNat:Int) <;> by_cases h2:(b.toNat:Int) ≤ 90 <;> by_cases h3:97 ≤ (b.toNat:Int) <;> by_cases h4:(b.toNat:Int) ≤ 122 <;> by_cases h5:48 ≤ (b.toNat:Int) <;> by_cases h6:(b.toNat:Int) ≤ 57 <;>
    (have ha:alnum b = alnumN b.toNat:=rfl
     simp only [h1,h2,h3,h4,h5,h6,if_true,if_false,not_true,not_false_eq_true]
     first
      | (exfalso;omega)
      | (rw [show alnum b = true by rw [ha];simp [alnumN];omega];simp)
      | (rw [show alnum b = false by rw [ha];simp [alnumN];omega];simp))
  ·obtain ⟨r,p,hr,hp⟩:=fNext_high hn hk hb
   rw [hp]
   have ha:alnum b = false:=by unfold alnum alnumN;simp;omega
   simp only [bindO_s,fCond_b,fBin_geq,fBin_leq,fUn_not,decide_eq_true_eq,show (65 ≤ (r:Int)) by omega,show ¬ ((r:Int) ≤ 90) by omega,show (97 ≤ (r:Int)) by omega,show ¬ ((r:Int) ≤ 122) by omega,show (48 ≤ (r:Int)) by omega,show ¬ ((r:Int) ≤ 57) by omega,decide_true,decide_false,Bool.not_false,Bool.false_eq_true,if_true,if_false,List.all_cons,Bool.false_and,ha]
theorem mach_isName_ok {s:Str} (hl:s.length < 1000000000000000):mach_isName (.str s) = some (.bool (isNm s)):=by
 rw [mach_isName.eq]
 exact mach_isName_L0 hl s 0 (by omega) rfl
theorem ref_isName_L0 {s:Str} (hl:s.length < 1000000000000000):∀ (t:Str) (k:Nat),k ≤ s.length → s.drop k = t →
  ref02_IsName.L0 (.str s) (.int .i64 (k:Int)) = some (.bool (t.all alnum && (decide (1 ≤ s.length) && decide (s.length ≤ 16)))):=by
 intro t
 induction t with
 | nil =>
  intro k hkl hd
  rw [ref02_IsName.L0_eq]
  simp only [fLenT_str,bindO_s,fCond_b,fBin_lss,fBin_geq,fBin_leq,Int.ofNat_lt,drop_nil hd,decide_false,Bool.false_eq_true,if_false,List.all_nil,Bool.true_and]
  by_cases h1:(1:Int) ≤ (s.length:Int)
  ·simp only [h1,decide_true,if_true,show 1 ≤ s.length by omega,Bool.true_and]
   rw [show decide ((s.length:Int) ≤ 16) = decide (s.length ≤ 16) by congr 1;exact propext (by omega)]
  ·simp only [h1,decide_false,Bool.false_eq_true,if_false,show ¬ 1 ≤ s.length by omega,Bool.false_and]
 | cons b t ih =>
  intro k hkl hd
  obtain ⟨hk,hn,hs⟩:=drop_cons hd
  have e:IntKind.i64.wrap ((k:Int) + 1) = ((k + 1:Nat):Int):=wrap64 (by omega) (by omega)
  have ih':=ih (k + 1) (by omega) hs
  have hby:fByte (.str s) (.int .i64 (k:Int)) = some (.int .u8 (b.toNat:Int)):=by simp [fByte,hn]
  rw [ref02_IsName.L0_eq]
  simp only [fLenT_str,bindO_s,fBin_lss,fCond_b,decide_eq_true_eq,Int.ofNat_lt,hk,if_true,hby]
  simp only [bindO_s,fCond_b,fBin_geq,fBin_leq,fUn_not,fBin_add,e,ih',decide_eq_true_eq,Bool.not_eq_true',decide_eq_false_iff_not,Bool.not_true,Bool.not_false,Bool.false_eq_true,if_true,if_false,List.all_cons]
  by_cases h1:65 ≤ (b.toNat:Int) <;> by_cases h2:(b.toNat:Int) ≤ 90 <;> by_cases h3:97 ≤ (b.toNat:Int) <;> by_cases h4:(b.toNat:Int) ≤ 122 <;> by_cases h5:48 ≤ (b.toNat:Int) <;> by_cases h6:(b.toNat:Int) ≤ 57 <;>
    (have ha:alnum b = alnumN b.toNat:=rfl
     simp only [h1,h2,h3,h4,h5,h6,if_true,if_false,not_true,not_false_eq_true]
     first
      | (exfalso;omega)
      | (rw [show alnum b = true by rw [ha];simp [alnumN];omega];simp)
      | (rw [show alnum b = false by rw [ha];simp [alnumN];omega];simp))
theorem ref_isName_ok {s:Str} (hl:s.length < 1000000000000000):ref02_IsName (.str s) = some (.bool (isNm s)):=by
 rw [ref02_IsName.eq]
 exact ref_isName_L0 hl s 0 (by omega) rfl
theorem find_L {α:Type} {e:α → List FV} {nm:α → Str} {n:Nat} (he:∀ a,(e a).length = n) (hz:∀ a,(e a)[0]? = some (.str (nm a))) {s:Str} {f:FV → R} {l:List α} (hl:l.length < 1000000000000000)
  (heq:∀ i,f i = bindO (fLen (.arr (l.map e))) fun v4 => bindO (fBin .lss i v4) fun v5 => fCond v5 (bindO (fIdxC n (.arr (l.map e)) i) fun c6 => bindO (c6[0]?) fun v7 => bindO (fBin .eql v7 (.str s)) fun v8 => fCond v8 (some i) (bindO (fBin .add i (.int .i64 1)) fun v9 => f v9)) (some (.int .i64 (-1)))) :
  ∀ (t:List α) (k:Nat),l.drop k = t → ∃ m:Int,f (.int .i64 (k:Int)) = some (.int .i64 m) ∧ (0 ≤ m ↔ s ∈ t.map nm):=by
 intro t
 induction t with
 | nil =>
  intro k hd
  refine ⟨-1,?_,by simp⟩
  rw [heq]
  simp only [fLen_arr,List.length_map,bindO_s,fCond_b,fBin_lss,decide_eq_true_eq,Int.ofNat_lt,drop_nil hd,if_false]
 | cons a t ih =>
  intro k hd
  obtain ⟨hk,hn,hs⟩:=drop_cons hd
  have e1:IntKind.i64.wrap ((k:Int) + 1) = ((k + 1:Nat):Int):=wrap64 (by omega) (by omega)
  obtain ⟨m,h1,h2⟩:=ih (k + 1) hs
  by_cases g:nm a = s
  ·refine ⟨k,?_,by simp [g]⟩
   rw [heq]
   simp only [fLen_arr,List.length_map,bindO_s,fCond_b,fBin_lss,decide_eq_true_eq,Int.ofNat_lt,hk,if_true,idx_arr (show (l.map e)[k]? = some (e a) by simp [hn]) (he a),hz,fBin_eqlS,g]
  ·refine ⟨m,?_,by rw [h2];simp only [List.map_cons,List.mem_cons,show s ≠ nm a from fun h => g h.symm,false_or]⟩
   rw [heq]
   simp only [fLen_arr,List.length_map,bindO_s,fCond_b,fBin_lss,decide_eq_true_eq,Int.ofNat_lt,hk,if_true,idx_arr (show (l.map e)[k]? = some (e a) by simp [hn]) (he a),hz,fBin_eqlS,g,if_false,fBin_add,e1,h1]
theorem place_ok {l:List Str} (hl:l.length < 1000000000000000) (s:Str):∃ m:Int,ref02_place (.arr (l.map S)) (.str s) = some (.int .i64 m) ∧ (0 ≤ m ↔ s ∈ l):=by
 obtain ⟨m,h1,h2⟩:=find_L (e:=S) (nm:=id) S_len S_zero (s:=s) (f:=ref02_place.L0 (.arr (l.map S)) (.str s)) hl (fun i => ref02_place.L0_eq _ _ _) l 0 rfl
 exact ⟨m,by rw [ref02_place.eq];exact h1,by simpa using h2⟩
section
variable {κ:Type} [DecidableEq κ] {key:κ → FV} {ag:Bool} {sk:List SK}
def setM (key:κ → FV) (m:List κ):List (FV × FV):=m.map fun s => (key s,.bool true)
theorem mFind_set (hk:∀ a b,keyEq ag sk (key a) (key b) = some (decide (a = b))) (s:κ):∀ m:List κ,mFind ag sk (setM key m) (key s) = some (if s ∈ m then some (.bool true) else none)
 | [] => by simp [setM,mFind]
 | a :: m => by
  have:=mFind_set hk s m
  simp only [setM,List.map_cons,mFind,hk,bindO_s] at this ⊢
  by_cases g:s = a
  ·simp [g]
  ·simp [g,this]
theorem mLook_set (hk:∀ a b,keyEq ag sk (key a) (key b) = some (decide (a = b))) (hok:∀ a,keyOk ag sk (key a) = true) (s:κ) (m:List κ):mLook ag sk (setM key m) (key s) (.bool false) = some (.bool (decide (s ∈ m)),decide (s ∈ m)):=by
 unfold mLook
 rw [hok,mFind_set hk]
 by_cases g:s ∈ m <;> simp [g]
theorem mPut_set (hk:∀ a b,keyEq ag sk (key a) (key b) = some (decide (a = b))) (s:κ):∀ m:List κ,s ∉ m → mPut ag sk (setM key m) (key s) (.bool true) = some (setM key (m ++ [s]))
 | [],_ => rfl
 | a :: m,h => by
  have:=mPut_set hk s m (fun g => h (by simp [g]))
  have g:s ≠ a:=fun g => h (by simp [g])
  simp only [setM,List.map_cons,List.cons_append,mPut,hk,bindO_s,g,decide_false] at this ⊢
  rw [this];rfl
end
theorem str_keyEq (a b:Str):keyEq false [.str] (.str a) (.str b) = some (decide (a = b)):=by
 have:(a == b) = decide (a = b):=by rw [Bool.eq_iff_iff];simp
 simp [keyEq,scalarEq,this]
theorem str_keyOk (a:Str):keyOk false [.str] (.str a) = true:=rfl
def namesGo:List Str → List Str → Int
 | _,[] => 0
 | m,s :: l => if isNm s = false then 21 else if s ∈ m then 22 else namesGo (m ++ [s]) l
def Sms (l:List Str):Prop:=l.length < 1000000000000000 ∧ ∀ s ∈ l,s.length < 1000000000000000
theorem ref_names_L0 {o:Option (List Str)} {l:List Str} (ho:li o = l) (hl:Sms l):∀ (t:List Str) (k:Nat),l.drop k = t →
  ref02_checkNames.L0 (sl S o) (.int .i64 (k:Int)) = some (.int .i64 (namesGo (l.take k) t)):=by
 intro t
 induction t with
 | nil =>
  intro k hd
  rw [ref02_checkNames.L0_eq]
  simp only [fLen_sl,ho,bindO_s,fCond_b,fBin_lss,decide_eq_true_eq,Int.ofNat_lt,drop_nil hd,if_false,namesGo]
 | cons s t ih =>
  intro k hd
  obtain ⟨hk,hn,hs⟩:=drop_cons hd
  have e1:IntKind.i64.wrap ((k:Int) + 1) = ((k + 1:Nat):Int):=wrap64 (by have:=hl.1;omega) (by have:=hl.1;omega)
  have hsm:=hl.2 s (List.mem_of_getElem? hn)
  obtain ⟨m,h1,h2⟩:=place_ok (l:=l.take k) (by have:=hl.1;simp;omega) s
  have htk:l.take (k + 1) = l.take k ++ [s]:=by rw [List.take_add_one,hn];rfl
  have hcut:fCut 1 (sl S o) none (some (.int .i64 (k:Int))) = some (.arr ((l.take k).map S)):=by
   cases o with
   | none => rw [← ho] at hk;simp at hk
   | some r =>
    obtain rfl:r = l:=ho
    rw [sl_some,fCut_take (rowsSz_map S_len _) (by simp;omega),List.map_take]
  rw [ref02_checkNames.L0_eq]
  simp only [fLen_sl,ho,bindO_s,fCond_b,fBin_lss,decide_eq_true_eq,Int.ofNat_lt,hk,if_true,idx_sl (ho ▸ hn) (S_len s),S_zero,ref_isName_ok hsm,fUn_not,hcut,h1,fBin_geq,h2,fBin_add,e1,ih (k + 1) hs,namesGo,Bool.not_eq_true',htk]
  by_cases g:isNm s = false
  ·simp only [g,if_true]
  ·simp only [g,if_false,reduceCtorEq]
   by_cases g2:s ∈ l.take k
   ·simp only [g2,if_true,if_false,reduceCtorEq]
   ·simp only [g2,if_false,reduceCtorEq]
theorem ref_names_ok {o:Option (List Str)} (hl:Sms (li o)):ref02_checkNames (sl S o) = some (.int .i64 (namesGo [] (li o))):=by
 rw [ref02_checkNames.eq]
 exact ref_names_L0 rfl hl _ 0 rfl
theorem mach_names_L0 {o:Option (List Str)} {l:List Str} (ho:li o = l) (hl:Sms l):∀ (t:List Str) (k:Nat) (m:List Str),l.drop k = t →
  mach_names.L0 (sl S o) (.int .i64 (l.length:Int)) (.int .i64 (k:Int)) (setM FV.str m) = some (.int .i64 (namesGo m t)):=by
 intro t
 induction t with
 | nil =>
  intro k m hd
  rw [mach_names.L0_eq]
  simp only [bindO_s,fCond_b,fBin_lss,decide_eq_true_eq,Int.ofNat_lt,drop_nil hd,if_false,namesGo]
 | cons s t ih =>
  intro k m hd
  obtain ⟨hk,hn,hs⟩:=drop_cons hd
  have e1:IntKind.i64.wrap ((k:Int) + 1) = ((k + 1:Nat):Int):=wrap64 (by have:=hl.1;omega) (by have:=hl.1;omega)
  have hsm:=hl.2 s (List.mem_of_getElem? hn)
  rw [mach_names.L0_eq]
  simp only [bindO_s,fCond_b,fBin_lss,decide_eq_true_eq,Int.ofNat_lt,hk,if_true,idx_sl (ho ▸ hn) (S_len s),S_zero,mach_isName_ok hsm,fUn_not,mLook_set str_keyEq str_keyOk,str_keyOk,gB_t,fBin_add,e1,namesGo,Bool.not_eq_true']
  by_cases g:isNm s = false
  ·simp only [g,if_true]
  ·simp only [g,if_false,reduceCtorEq]
   by_cases g2:s ∈ m
   ·simp only [g2,if_true,if_false,reduceCtorEq]
   ·simp only [g2,if_false,reduceCtorEq,mPut_set str_keyEq s m g2,bindO_s,ih (k + 1) _ hs]
theorem mach_names_ok {o:Option (List Str)} (hl:Sms (li o)):mach_names (sl S o) = some (.int .i64 (namesGo [] (li o))):=by
 rw [mach_names.eq]
 simp only [fLen_sl,bindO_s]
 exact mach_names_L0 rfl hl _ 0 [] rfl
end Go.Proofs.Ytelcbakleaaneaa
end
section
namespace Go.Proofs.Ytelcbakleaaneaa
open Go Go.Proofs.Ytelcbakleaaneaa.VM
abbrev TPort:=Str × Option (List Str) × Unit
def P (p:TPort):List FV:=[.str p.1,sl S p.2.1]
abbrev TRow:=Int × Option (List Int) × Unit
def RW (r:TRow):List FV:=[.int .i64 r.1,sl I r.2.1]
abbrev TMach:=Str × Option (List Str) × Int × Option (List TPort) × Option (List TPort) × Option (List TRow) × Unit
def MC (m:TMach):List FV:=[.str m.1,sl S m.2.1,.int .i64 m.2.2.1,sl P m.2.2.2.1,sl P m.2.2.2.2.1,sl RW m.2.2.2.2.2.1]
@[simp] theorem P_len (p:TPort):(P p).length = 2:=rfl
@[simp] theorem P_zero (p:TPort):(P p)[0]? = some (.str p.1):=rfl
@[simp] theorem P_one (p:TPort):(P p)[1]? = some (sl S p.2.1):=rfl
@[simp] theorem RW_len (r:TRow):(RW r).length = 2:=rfl
@[simp] theorem RW_zero (r:TRow):(RW r)[0]? = some (.int .i64 r.1):=rfl
@[simp] theorem RW_one (r:TRow):(RW r)[1]? = some (sl I r.2.1):=rfl
def SmP (p:TPort):Prop:=p.1.length < 1000000000000000 ∧ Sms (li p.2.1)
def fitGo:List TPort → List Int → Bool
 | p :: ps,v :: vs => decide (0 ≤ v) && decide (v < ((li p.2.1).length:Int)) && fitGo ps vs
 | _,_ => true
def fitP (ps:List TPort) (vs:List Int):Bool:=decide (ps.length = vs.length) && fitGo ps vs
theorem right_L0 {o:Option (List TPort)} {v:Option (List Int)} (hl:(li o).length = (li v).length) (hs:(li o).length < 1000000000000000):∀ (ps:List TPort) (vs:List Int) (k:Nat),(li o).drop k = ps → (li v).drop k = vs →
  ref02_right.L0 (sl P o) (sl I v) (.int .i64 (k:Int)) = some (.bool (fitGo ps vs)):=by
 intro ps
 induction ps with
 | nil =>
  intro vs k hd hv
  rw [ref02_right.L0_eq]
  simp only [fLen_sl,bindO_s,fBin_lss,fCond_b,decide_eq_true_eq,Int.ofNat_lt,drop_nil hd,if_false]
  rfl
 | cons p ps ih =>
  intro vs k hd hv
  obtain ⟨hk,hn,hs'⟩:=drop_cons hd
  cases vs with
  | nil => have:=drop_nil hv;omega
  | cons n vs =>
   obtain ⟨_,hn2,hv'⟩:=drop_cons hv
   have e:IntKind.i64.wrap ((k:Int) + 1) = ((k + 1:Nat):Int):=wrap64 (by omega) (by omega)
   rw [ref02_right.L0_eq]
   simp only [fLen_sl,bindO_s,fBin_lss,fCond_b,decide_eq_true_eq,Int.ofNat_lt,hk,if_true,idx_sl hn2 (I_len n),I_zero,idx_sl hn (P_len p),P_one,fBin_geq,fBin_add,e,ih vs (k + 1) hs' hv',fitGo]
   by_cases g1:n < 0
   ·simp only [g1,if_true,show ¬ (0 ≤ n) by omega,decide_false,Bool.false_and]
   ·by_cases g2:((li p.2.1).length:Int) ≤ n
    ·simp only [g1,g2,if_true,if_false,show ¬ (n < ((li p.2.1).length:Int)) by omega,decide_false,Bool.and_false,Bool.false_and]
    ·simp only [g1,g2,if_false,show (0 ≤ n) by omega,show (n < ((li p.2.1).length:Int)) by omega,decide_true,Bool.true_and]
theorem right_ok {o:Option (List TPort)} {v:Option (List Int)} (h1:(li o).length < 1000000000000000):ref02_right (sl P o) (sl I v) = some (.bool (fitP (li o) (li v))):=by
 rw [ref02_right.eq]
 simp only [fLen_sl,bindO_s,fBin_neq,fCond_b,fitP,decide_eq_true_eq]
 by_cases g:(li o).length = (li v).length
 ·rw [if_neg (by omega)]
  rw [show (FV.int IntKind.i64 0) = .int .i64 ((0:Nat):Int) from rfl,right_L0 g h1 _ _ 0 rfl rfl]
  simp [g]
 ·rw [if_pos (by omega)]
  simp [g]
theorem fit_L0 {o:Option (List TPort)} {v:Option (List Int)} (hl:(li o).length = (li v).length) (hs:(li o).length < 1000000000000000):∀ (ps:List TPort) (vs:List Int) (k:Nat),(li o).drop k = ps → (li v).drop k = vs →
  mach_fit.L0 (sl P o) (sl I v) (.int .i64 ((li v).length:Int)) (.int .i64 (k:Int)) = some (.bool (fitGo ps vs)):=by
 intro ps
 induction ps with
 | nil =>
  intro vs k hd hv
  rw [mach_fit.L0_eq]
  simp only [fLen_sl,bindO_s,fBin_lss,fCond_b,decide_eq_true_eq,Int.ofNat_lt,hl ▸ drop_nil hd,if_false]
  rfl
 | cons p ps ih =>
  intro vs k hd hv
  obtain ⟨hk,hn,hs'⟩:=drop_cons hd
  cases vs with
  | nil => have:=drop_nil hv;omega
  | cons n vs =>
   obtain ⟨hk2,hn2,hv'⟩:=drop_cons hv
   have e:IntKind.i64.wrap ((k:Int) + 1) = ((k + 1:Nat):Int):=wrap64 (by omega) (by omega)
   rw [mach_fit.L0_eq]
   simp only [fLen_sl,bindO_s,fBin_lss,fCond_b,decide_eq_true_eq,Int.ofNat_lt,hk2,if_true,idx_sl hn2 (I_len n),I_zero,idx_sl hn (P_len p),P_one,fBin_geq,fBin_add,e,ih vs (k + 1) hs' hv',fitGo]
   by_cases g1:n < 0
   ·simp only [g1,if_true,show ¬ (0 ≤ n) by omega,decide_false,Bool.false_and]
   ·by_cases g2:((li p.2.1).length:Int) ≤ n
    ·simp only [g1,g2,if_true,if_false,show ¬ (n < ((li p.2.1).length:Int)) by omega,decide_false,Bool.and_false,Bool.false_and]
    ·simp only [g1,g2,if_false,show (0 ≤ n) by omega,show (n < ((li p.2.1).length:Int)) by omega,decide_true,Bool.true_and]
theorem fit_ok {o:Option (List TPort)} {v:Option (List Int)} (h1:(li o).length < 1000000000000000):mach_fit (sl P o) (sl I v) = some (.bool (fitP (li o) (li v))):=by
 rw [mach_fit.eq]
 simp only [fLen_sl,bindO_s,fBin_neq,fCond_b,fitP,decide_eq_true_eq]
 by_cases g:(li o).length = (li v).length
 ·rw [if_neg (by omega)]
  rw [show (FV.int IntKind.i64 0) = .int .i64 ((0:Nat):Int) from rfl,fit_L0 g h1 _ _ 0 rfl rfl]
  simp [g]
 ·rw [if_pos (by omega)]
  simp [g]
def prodL:List TPort → Nat
 | [] => 1
 | p :: ps => (li p.2.1).length * prodL ps
def Lens (ps:List TPort):Prop:=∀ p ∈ ps,1 ≤ (li p.2.1).length ∧ (li p.2.1).length ≤ 64
theorem prodL_pos:∀ (ps:List TPort),Lens ps → 1 ≤ prodL ps
 | [],_ => Nat.le_refl _
 | p :: ps,h => Nat.mul_le_mul (h p (by simp)).1 (prodL_pos ps fun q hq => h q (by simp [hq]))
theorem ref_product_L0 {o:Option (List TPort)} (hs:(li o).length < 1000000000000000):∀ (t:List TPort) (k a:Nat),(li o).drop k = t → Lens t → a ≤ 2097152 →
  ref02_product.L0 (sl P o) (.int .i64 (a:Int)) (.int .i64 (k:Int)) = some (.int .i64 ((min (a * prodL t) 2097152:Nat):Int)):=by
 intro t
 induction t with
 | nil =>
  intro k a hd hL ha
  rw [ref02_product.L0_eq]
  simp only [fLen_sl,bindO_s,fBin_lss,fCond_b,decide_eq_true_eq,Int.ofNat_lt,drop_nil hd,if_false,prodL,Nat.mul_one,Nat.min_eq_left ha]
 | cons p t ih =>
  intro k a hd hL ha
  obtain ⟨hk,hn,hs'⟩:=drop_cons hd
  obtain ⟨l1,l2⟩:=hL p (by simp)
  have e:IntKind.i64.wrap ((k:Int) + 1) = ((k + 1:Nat):Int):=wrap64 (by omega) (by omega)
  have hb:a * (li p.2.1).length ≤ 2097152 * 64:=Nat.mul_le_mul ha l2
  have e2:IntKind.i64.wrap ((a:Int) * ((li p.2.1).length:Int)) = ((a * (li p.2.1).length:Nat):Int):=wrap64 (by omega) (by omega)
  have e3:min (((a * (li p.2.1).length:Nat):Int)) 2097152 = ((min (a * (li p.2.1).length) 2097152:Nat):Int):=by omega
  rw [ref02_product.L0_eq]
  simp only [fLen_sl,bindO_s,fBin_lss,fCond_b,decide_eq_true_eq,Int.ofNat_lt,hk,if_true,idx_sl hn (P_len p),P_one,fBin_mul,e2,fMin_int,e3,fBin_add,e]
  rw [ih (k + 1) _ hs' (fun q hq => hL q (by simp [hq])) (by omega)]
  have hp:=prodL_pos t (fun q hq => hL q (by simp [hq]))
  simp only [prodL]
  congr 3
  rw [← Nat.mul_assoc]
  generalize a * (li p.2.1).length = c
  rcases Nat.le_total c 2097152 with g | g
  ·rw [Nat.min_eq_left g]
  ·rw [Nat.min_eq_right g]
   have h1:2097152 * 1 ≤ 2097152 * prodL t:=Nat.mul_le_mul_left _ hp
   have h2:2097152 * prodL t ≤ c * prodL t:=Nat.mul_le_mul_right _ g
   omega
theorem ref_product_ok {o:Option (List TPort)} (hs:(li o).length < 1000000000000000) (hL:Lens (li o)):ref02_product (sl P o) = some (.int .i64 ((min (prodL (li o)) 2097152:Nat):Int)):=by
 rw [ref02_product.eq]
 have:=ref_product_L0 hs _ 0 1 rfl hL (by omega)
 simpa using this
def capP (n:Nat):Nat:=if 1099511627776 < n then 1099511627776 else n
theorem mach_product_L0 {o:Option (List TPort)} (hs:(li o).length < 1000000000000000):∀ (t:List TPort) (k a:Nat),(li o).drop k = t → Lens t → a ≤ 1099511627776 →
  mach_product.L0 (.int .i64 (a:Int)) (sl P o) (.int .i64 ((li o).length:Int)) (.int .i64 (k:Int)) = some (.int .i64 (capP (a * prodL t):Int)):=by
 intro t
 induction t with
 | nil =>
  intro k a hd hL ha
  rw [mach_product.L0_eq]
  simp only [fLen_sl,bindO_s,fBin_lss,fCond_b,decide_eq_true_eq,Int.ofNat_lt,drop_nil hd,if_false,prodL,Nat.mul_one,capP,show ¬ (1099511627776 < a) by omega]
 | cons p t ih =>
  intro k a hd hL ha
  obtain ⟨hk,hn,hs'⟩:=drop_cons hd
  obtain ⟨l1,l2⟩:=hL p (by simp)
  have e:IntKind.i64.wrap ((k:Int) + 1) = ((k + 1:Nat):Int):=wrap64 (by omega) (by omega)
  have hb:a * (li p.2.1).length ≤ 1099511627776 * 64:=Nat.mul_le_mul ha l2
  have e2:IntKind.i64.wrap ((a:Int) * ((li p.2.1).length:Int)) = ((a * (li p.2.1).length:Nat):Int):=wrap64 (by omega) (by omega)
  have hp:=prodL_pos t (fun q hq => hL q (by simp [hq]))
  have h2:a * (li p.2.1).length * 1 ≤ a * (li p.2.1).length * prodL t:=Nat.mul_le_mul_left _ hp
  rw [mach_product.L0_eq]
  simp only [fLen_sl,bindO_s,fBin_lss,fCond_b,decide_eq_true_eq,Int.ofNat_lt,hk,if_true,idx_sl hn (P_len p),P_zero,P_one,fBin_mul,e2,fBin_gtr,fBin_add,e,prodL,← Nat.mul_assoc]
  by_cases g:(1099511627776:Int) < ((a * (li p.2.1).length:Nat):Int)
  ·rw [if_pos g]
   simp only [capP]
   rw [if_pos (by omega)]
   rfl
  ·rw [if_neg g]
   exact ih (k + 1) _ hs' (fun q hq => hL q (by simp [hq])) (by omega)
theorem mach_product_ok {o:Option (List TPort)} (hs:(li o).length < 1000000000000000) (hL:Lens (li o)):mach_product (sl P o) = some (.int .i64 (capP (prodL (li o)):Int)):=by
 rw [mach_product.eq]
 have:=mach_product_L0 hs _ 0 1 rfl hL (by omega)
 simpa using this
def portsGo:List Str → List TPort → Int
 | _,[] => 0
 | m,p :: l => if isNm p.1 = false then 21 else if p.1 ∈ m then 22 else if ((li p.2.1).length:Int) = 0 then 26 else if 64 < ((li p.2.1).length:Int) then 26 else
   if namesGo [] (li p.2.1) ≠ 0 then namesGo [] (li p.2.1) else portsGo (m ++ [p.1]) l
theorem portsGo_lens:∀ (l:List TPort) (m:List Str),portsGo m l = 0 → Lens l
 | [],_,_ => fun p hp => by cases hp
 | p :: l,m,h => by
  simp only [portsGo] at h
  repeat' split at h
  all_goals first | (exfalso;omega) | skip
  rename_i h1 h2 h3 h4 h5
  intro q hq
  rcases List.mem_cons.1 hq with rfl | hq
  ·exact ⟨by omega,by omega⟩
  ·exact portsGo_lens l _ h q hq
def rowOk (n:Nat) (outs:List TPort) (r:TRow):Bool:=decide (0 ≤ r.1) && decide (r.1 < (n:Int)) && fitP outs (li r.2.1)
theorem portAt_ok {l:List TPort} (hl:l.length < 1000000000000000) (s:Str):∃ m:Int,ref02_portAt (.arr (l.map P)) (.str s) = some (.int .i64 m) ∧ (0 ≤ m ↔ s ∈ l.map Prod.fst):=by
 obtain ⟨m,h1,h2⟩:=find_L (e:=P) (nm:=Prod.fst) P_len P_zero (s:=s) (f:=ref02_portAt.L0 (.arr (l.map P)) (.str s)) hl (fun i => ref02_portAt.L0_eq _ _ _) l 0 rfl
 exact ⟨m,by rw [ref02_portAt.eq];exact h1,h2⟩
theorem ref_ports {l:List TPort} (hl:l.length < 1000000000000000) (hsm:∀ p ∈ l,SmP p) (x2 x3 x4 x5 x6 x7:FV) (r8:List (List FV)):∀ (t:List TPort) (k:Nat),l.drop k = t → k ≤ l.length →
  ref02_Check.L2 (.arr (l.map P)) (.int .i64 (k:Int)) x2 x3 x4 x5 x6 x7 r8 = if portsGo ((l.take k).map Prod.fst) t ≠ 0 then some (.int .i64 (portsGo ((l.take k).map Prod.fst) t)) else ref02_Check.L2 (.arr (l.map P)) (.int .i64 (l.length:Int)) x2 x3 x4 x5 x6 x7 r8:=by
 intro t
 induction t with
 | nil =>
  intro k hd hkl
  obtain rfl:k = l.length:=by have:=drop_nil hd;omega
  simp only [portsGo,ne_eq,not_true,if_false]
 | cons p t ih =>
  intro k hd hkl
  obtain ⟨hk,hn,hs⟩:=drop_cons hd
  have e1:IntKind.i64.wrap ((k:Int) + 1) = ((k + 1:Nat):Int):=wrap64 (by omega) (by omega)
  obtain ⟨s1,s2⟩:=hsm p (List.mem_of_getElem? hn)
  obtain ⟨m,h1,h2⟩:=portAt_ok (l:=l.take k) (by simp;omega) p.1
  have htk:(l.take (k + 1)).map Prod.fst = (l.take k).map Prod.fst ++ [p.1]:=by rw [List.take_add_one,hn];simp
  have hix:fIdxC 2 (.arr (l.map P)) (.int .i64 (k:Int)) = some (P p):=idx_arr (by simp [hn]) (P_len p)
  have hcut:fCut 2 (.arr (l.map P)) none (some (.int .i64 (k:Int))) = some (.arr ((l.take k).map P)):=by
   rw [fCut_take (rowsSz_map P_len _) (by simp;omega),List.map_take]
  have hL3:ref02_Check.L3 (.arr (l.map P)) (.int .i64 (k:Int)) x2 x3 x4 x5 x6 x7 r8 = if namesGo [] (li p.2.1) ≠ 0 then some (.int .i64 (namesGo [] (li p.2.1))) else ref02_Check.L2 (.arr (l.map P)) (.int .i64 ((k + 1:Nat):Int)) x2 x3 x4 x5 x6 x7 r8:=by
   rw [ref02_Check.L3_eq]
   simp only [hix,bindO_s,P_one,ref_names_ok s2,fBin_neq,fCond_b,decide_eq_true_eq,fBin_add,e1]
  rw [ref02_Check.L2_eq]
  simp only [fLen_arr,List.length_map,bindO_s,fCond_b,fBin_lss,decide_eq_true_eq,Int.ofNat_lt,hk,if_true,hix,P_zero,P_one,ref_isName_ok s1,fUn_not,hcut,h1,fBin_geq,h2,fLen_sl,fBin_eql,fBin_gtr,hL3,portsGo,Bool.not_eq_true']
  have ih':=ih (k + 1) hs (by omega)
  rw [htk] at ih'
  rw [ih']
  by_cases g:isNm p.1 = false
  ·simp [g]
  ·simp only [g,if_true,if_false,reduceCtorEq,ne_eq,not_true,not_false_eq_true]
   by_cases g2:p.1 ∈ (l.take k).map Prod.fst
   ·simp only [g2,if_true,if_false,reduceCtorEq,ne_eq,not_true,not_false_eq_true];rfl
   ·simp only [g2,if_true,if_false,reduceCtorEq,ne_eq,not_true,not_false_eq_true]
    by_cases g3:((li p.2.1).length:Int) = 0
    ·simp only [g3,if_true,if_false,reduceCtorEq,ne_eq,not_true,not_false_eq_true];rfl
    ·simp only [g3,if_true,if_false,reduceCtorEq,ne_eq,not_true,not_false_eq_true]
     by_cases g4:64 < ((li p.2.1).length:Int)
     ·simp only [g4,if_true,if_false,reduceCtorEq,ne_eq,not_true,not_false_eq_true];rfl
     ·simp only [g4,if_true,if_false,reduceCtorEq,ne_eq,not_true,not_false_eq_true]
      by_cases g5:namesGo [] (li p.2.1) ≠ 0
      ·simp only [g5,if_true,if_false,reduceCtorEq,ne_eq,not_true,not_false_eq_true]
      ·simp only [g5,if_true,if_false,reduceCtorEq,ne_eq,not_true,not_false_eq_true]
theorem mach_ports {l:List TPort} (hl:l.length < 1000000000000000) (hsm:∀ p ∈ l,SmP p) (x3 x4 x5 x6 x7 x8:FV) (r10:List (List FV)):∀ (t:List TPort) (k:Nat) (m:List Str),l.drop k = t →
  mach_checkPorts.L1 (.arr (l.map P)) (.int .i64 (l.length:Int)) (.int .i64 (k:Int)) x3 x4 x5 x6 x7 x8 (setM FV.str m) r10 = some (.int .i64 (portsGo m t)):=by
 intro t
 induction t with
 | nil =>
  intro k m hd
  rw [mach_checkPorts.L1_eq]
  simp only [portsGo,bindO_s,fCond_b,fBin_lss,decide_eq_true_eq,Int.ofNat_lt,drop_nil hd,if_false]
 | cons p t ih =>
  intro k m hd
  obtain ⟨hk,hn,hs⟩:=drop_cons hd
  have e1:IntKind.i64.wrap ((k:Int) + 1) = ((k + 1:Nat):Int):=wrap64 (by omega) (by omega)
  obtain ⟨s1,s2⟩:=hsm p (List.mem_of_getElem? hn)
  have hix:fIdxC 2 (.arr (l.map P)) (.int .i64 (k:Int)) = some (P p):=idx_arr (by simp [hn]) (P_len p)
  rw [mach_checkPorts.L1_eq]
  simp only [bindO_s,fCond_b,fBin_lss,decide_eq_true_eq,Int.ofNat_lt,hk,if_true,hix,P_zero,P_one,mach_isName_ok s1,fUn_not,mLook_set str_keyEq str_keyOk,fLen_sl,fBin_eql,fBin_gtr,mach_checkPorts.L3_eq,mach_checkPorts.L2_eq,str_keyOk,gB_t,mach_names_ok s2,fBin_neq,fBin_add,e1,portsGo,Bool.not_eq_true']
  by_cases g:isNm p.1 = false
  ·simp only [g,if_true,if_false,reduceCtorEq,ne_eq,not_true,not_false_eq_true]
  ·simp only [g,if_true,if_false,reduceCtorEq,ne_eq,not_true,not_false_eq_true]
   by_cases g2:p.1 ∈ m
   ·simp only [g2,if_true,if_false,reduceCtorEq,ne_eq,not_true,not_false_eq_true]
   ·simp only [g2,if_false,reduceCtorEq,mPut_set str_keyEq p.1 m g2,bindO_s,ih (k + 1) _ hs]
    by_cases g3:((li p.2.1).length:Int) = 0
    ·simp only [g3,if_true,if_false,reduceCtorEq,ne_eq,not_true,not_false_eq_true]
    ·simp only [g3,if_true,if_false,reduceCtorEq,ne_eq,not_true,not_false_eq_true]
     by_cases g4:64 < ((li p.2.1).length:Int)
     ·simp only [g4,if_true,if_false,reduceCtorEq,ne_eq,not_true,not_false_eq_true]
     ·simp only [g4,if_true,if_false,reduceCtorEq,ne_eq,not_true,not_false_eq_true]
      by_cases g5:namesGo [] (li p.2.1) ≠ 0
      ·simp only [g5,if_true,if_false,reduceCtorEq,ne_eq,not_true,not_false_eq_true]
      ·simp only [g5,if_true,if_false,reduceCtorEq,ne_eq,not_true,not_false_eq_true]
end Go.Proofs.Ytelcbakleaaneaa
end
section
namespace Go.Proofs.Ytelcbakleaaneaa
open Go Go.Proofs.Ytelcbakleaaneaa.VM
def rowsOk (n:Nat) (outs:List TPort) (rs:List TRow):Bool:=rs.all (rowOk n outs)
def checkG (nm:Str) (sts:List Str) (start:Int) (ins outs:List TPort) (rows:List TRow):Int :=
 if isNm nm = false then 21
 else if (sts.length:Int) = 0 then 26
 else if 256 < (sts.length:Int) then 26
 else if namesGo [] sts ≠ 0 then namesGo [] sts
 else if 8 < (ins.length:Int) then 26
 else if 8 < (outs.length:Int) then 26
 else if portsGo [] (ins ++ outs) ≠ 0 then portsGo [] (ins ++ outs)
 else if start < 0 then 27
 else if (sts.length:Int) ≤ start then 27
 else if 4096 < sts.length * prodL ins then 26
 else if rows.length ≠ sts.length * prodL ins then 23
 else if rowsOk sts.length outs rows then 0 else 27
def checkP (m:TMach):Int:=checkG m.1 (li m.2.1) m.2.2.1 (li m.2.2.2.1) (li m.2.2.2.2.1) (li m.2.2.2.2.2.1)
structure SmM (m:TMach):Prop where
 nm:m.1.length < 1000000000000000
 sts:Sms (li m.2.1)
 ins:(li m.2.2.2.1).length < 1000000000000000 ∧ ∀ p ∈ li m.2.2.2.1,SmP p
 outs:(li m.2.2.2.2.1).length < 1000000000000000 ∧ ∀ p ∈ li m.2.2.2.2.1,SmP p
 rows:(li m.2.2.2.2.2.1).length < 1000000000000000 ∧ ∀ r ∈ li m.2.2.2.2.2.1,(li r.2.1).length < 1000000000000000
theorem ref_rows {oo:Option (List TPort)} {os:Option (List Str)} {o:Option (List TRow)} (h1:(li oo).length < 1000000000000000) (hl:(li o).length < 1000000000000000) (x1 x3 x4:FV) (r7:List (List FV)):∀ (t:List TRow) (k:Nat),(li o).drop k = t →
  ref02_Check.L5 (.int .i64 (k:Int)) x1 (sl S os) x3 x4 (sl P oo) (sl RW o) r7 = some (.int .i64 (if rowsOk (li os).length (li oo) t then 0 else 27)):=by
 intro t
 induction t with
 | nil =>
  intro k hd
  rw [ref02_Check.L5_eq]
  simp only [fLen_sl,bindO_s,fBin_lss,fCond_b,decide_eq_true_eq,Int.ofNat_lt,drop_nil hd,if_false]
  rfl
 | cons r t ih =>
  intro k hd
  obtain ⟨hk,hn,hs⟩:=drop_cons hd
  have e:IntKind.i64.wrap ((k:Int) + 1) = ((k + 1:Nat):Int):=wrap64 (by omega) (by omega)
  rw [ref02_Check.L5_eq]
  simp only [fLen_sl,bindO_s,fBin_lss,fCond_b,decide_eq_true_eq,Int.ofNat_lt,hk,if_true,idx_sl hn (RW_len r),RW_zero,RW_one,fBin_geq,right_ok h1,fUn_not,fBin_add,e,ih (k + 1) hs,Bool.not_eq_true',rowsOk,List.all_cons,rowOk]
  by_cases g1:r.1 < 0
  ·simp [g1,show ¬ (0 ≤ r.1) by omega]
  ·by_cases g2:((li os).length:Int) ≤ r.1
   ·simp [g1,g2,show ¬ (r.1 < ((li os).length:Int)) by omega]
   ·by_cases g3:fitP (li oo) (li r.2.1) = true
    ·simp only [g1,g2,g3,if_false,reduceCtorEq,show (0 ≤ r.1) by omega,show (r.1 < ((li os).length:Int)) by omega,decide_true,Bool.true_and];rfl
    ·simp [g1,g2,g3]
theorem mach_rows {oo:Option (List TPort)} {os:Option (List Str)} {o:Option (List TRow)} (h1:(li oo).length < 1000000000000000) (hl:(li o).length < 1000000000000000) (x3 x5 x6 x8:FV):∀ (t:List TRow) (k:Nat),(li o).drop k = t →
  mach_Check.L2 (sl RW o) (.int .i64 ((li o).length:Int)) (.int .i64 (k:Int)) x3 (sl S os) x5 x6 (sl P oo) x8 = some (.int .i64 (if rowsOk (li os).length (li oo) t then 0 else 27)):=by
 intro t
 induction t with
 | nil =>
  intro k hd
  rw [mach_Check.L2_eq]
  simp only [fLen_sl,bindO_s,fBin_lss,fCond_b,decide_eq_true_eq,Int.ofNat_lt,drop_nil hd,if_false]
  rfl
 | cons r t ih =>
  intro k hd
  obtain ⟨hk,hn,hs⟩:=drop_cons hd
  have e:IntKind.i64.wrap ((k:Int) + 1) = ((k + 1:Nat):Int):=wrap64 (by omega) (by omega)
  rw [mach_Check.L2_eq]
  simp only [fLen_sl,bindO_s,fBin_lss,fCond_b,decide_eq_true_eq,Int.ofNat_lt,hk,if_true,idx_sl hn (RW_len r),RW_zero,RW_one,fBin_geq,fit_ok h1,fUn_not,fBin_add,e,ih (k + 1) hs,Bool.not_eq_true',rowsOk,List.all_cons,rowOk]
  by_cases g1:r.1 < 0
  ·simp [g1,show ¬ (0 ≤ r.1) by omega]
  ·by_cases g2:((li os).length:Int) ≤ r.1
   ·simp [g1,g2,show ¬ (r.1 < ((li os).length:Int)) by omega]
   ·by_cases g3:fitP (li oo) (li r.2.1) = true
    ·simp only [g1,g2,g3,if_false,reduceCtorEq,show (0 ≤ r.1) by omega,show (r.1 < ((li os).length:Int)) by omega,decide_true,Bool.true_and];rfl
    ·simp [g1,g2,g3]
theorem concat_L1 {a b:Option (List TPort)} (ha:(li a).length ≤ 8) (hb:(li b).length ≤ 8):slices_Concat_api_Port.L1 (.arr [[sl P a],[sl P b]]) (.int .i64 2) (.int .i64 0) [] = some (.arr ((li a ++ li b).map P)):=by
 have r1:([]:List (List FV)).length + ((li a).map P).length ≤ 16:=by simp;omega
 rw [slices_Concat_api_Port.L1_eq]
 simp only [bindO_s,fBin_lss,fCond_b,show decide ((0:Int) < 2) = true from rfl,if_true,show fIdxC 1 (.arr [[sl P a],[sl P b]]) (.int .i64 0) = some [sl P a] from rfl,List.getElem?_cons_zero,asRows_sl,rowsSz_map P_len,gB_t,show (([]:List (List FV)).length + ((li a).map P).length) * 40 ≤ room by unfold room;omega,decide_true,fBin_add,show IntKind.i64.wrap (0 + 1) = 1 from rfl,List.nil_append]
 rw [slices_Concat_api_Port.L1_eq]
 simp only [bindO_s,fBin_lss,fCond_b,show decide ((1:Int) < 2) = true from rfl,if_true,show fIdxC 1 (.arr [[sl P a],[sl P b]]) (.int .i64 1) = some [sl P b] from rfl,List.getElem?_cons_zero,asRows_sl,rowsSz_map P_len,gB_t,List.length_map,show ((li a).length + (li b).length) * 40 ≤ room by unfold room;omega,decide_true,fBin_add,show IntKind.i64.wrap (1 + 1) = 2 from rfl]
 rw [slices_Concat_api_Port.L1_eq]
 simp only [bindO_s,fBin_lss,fCond_b,Int.lt_irrefl,decide_false,Bool.false_eq_true,if_false,List.map_append]
theorem concat_ok {a b:Option (List TPort)} (ha:(li a).length ≤ 8) (hb:(li b).length ≤ 8):slices_Concat_api_Port (.arr [[sl P a],[sl P b]]) = some (.arr ((li a ++ li b).map P)):=by
 have e1:IntKind.i64.wrap (0 + ((li a).length:Int)) = ((li a).length:Int):=by rw [wrap64 (by omega) (by omega)];omega
 have e2:IntKind.i64.wrap (((li a).length:Int) + ((li b).length:Int)) = (((li a).length + (li b).length:Nat):Int):=by rw [wrap64 (by omega) (by omega)];omega
 rw [slices_Concat_api_Port.eq]
 simp only [fLen_arr,bindO_s,show ((([[sl P a],[sl P b]]:List (List FV)).length:Nat):Int) = 2 from rfl]
 rw [slices_Concat_api_Port.L0_eq]
 simp only [bindO_s,fBin_lss,fCond_b,show decide ((0:Int) < 2) = true from rfl,if_true,show fIdxC 1 (.arr [[sl P a],[sl P b]]) (.int .i64 0) = some [sl P a] from rfl,List.getElem?_cons_zero,fLen_sl,fBin_add,e1,show decide (((li a).length:Int) < 0) = false by simp,Bool.false_eq_true,if_false,show IntKind.i64.wrap (0 + 1) = 1 from rfl]
 rw [slices_Concat_api_Port.L0_eq]
 simp only [bindO_s,fBin_lss,fCond_b,show decide ((1:Int) < 2) = true from rfl,if_true,show fIdxC 1 (.arr [[sl P a],[sl P b]]) (.int .i64 1) = some [sl P b] from rfl,List.getElem?_cons_zero,fLen_sl,fBin_add,e2,show decide ((((li a).length + (li b).length:Nat):Int) < 0) = false by simp;omega,Bool.false_eq_true,if_false,show IntKind.i64.wrap (1 + 1) = 2 from rfl]
 rw [slices_Concat_api_Port.L0_eq]
 simp only [bindO_s,fBin_lss,fCond_b,Int.lt_irrefl,decide_false,show decide ((((li a).length + (li b).length:Nat):Int) < 0) = false by simp;omega,Bool.false_eq_true,if_false,fCap,fLen_nil,fBin_sub,show IntKind.i64.wrap (0 - 0) = 0 from rfl,fBin_gtr,fLen_arr,show ((([[sl P a],[sl P b]]:List (List FV)).length:Nat):Int) = 2 from rfl,concat_L1 ha hb]
 have e3:IntKind.i64.wrap ((((li a).length + (li b).length:Nat):Int) - 0) = (((li a).length + (li b).length:Nat):Int):=by rw [wrap64 (by omega) (by omega)];omega
 simp only [e3]
 split
 ·simp only [fCut,cut?,asNat,bindO_s,onNil,show (0:Int) ≤ 0 from by decide,if_true,Int.toNat_zero,Nat.le_refl,and_self,asNat_nat,Nat.zero_le,List.take_zero,List.drop_nil,concat_L1 ha hb]
  rw [if_pos (by omega)]
  simp only [bindO_s,Int.toNat_natCast,show ((li a).length + (li b).length) * 40 ≤ room by unfold room;omega,decide_true,gB_t]
 ·rfl
theorem mach_checkPorts_ok {m:TMach} (h:SmM m):mach_checkPorts (.agg (MC m)) = some (.int .i64 (if 8 < ((li m.2.2.2.1).length:Int) then 26 else if 8 < ((li m.2.2.2.2.1).length:Int) then 26 else portsGo [] (li m.2.2.2.1 ++ li m.2.2.2.2.1))):=by
 obtain ⟨nm,sts,start,ins,outs,rows,⟨⟩⟩:=m
 obtain ⟨hn,hst,hi,ho,hr⟩:=h
 dsimp only at *
 have hal:(li ins ++ li outs).length < 1000000000000000 → True:=fun _ => trivial
 rw [mach_checkPorts.eq]
 simp only [MC,fIsAgg_agg,List.length_cons,List.length_nil,fCell_zero,fCell_succ,fLen_sl,bindO_s,fBin_gtr,fCond_b,decide_eq_true_eq]
 rw [show (0 + 1 + 1 + 1 + 1 + 1 + 1 == 6) = true from rfl,gB_t]
 by_cases g1:8 < ((li ins).length:Int)
 ·simp only [g1,if_true]
 ·by_cases g2:8 < ((li outs).length:Int)
  ·simp only [g1,g2,if_true,if_false]
  ·simp only [g1,g2,if_false]
   rw [mach_checkPorts.L0_eq,concat_ok (by omega) (by omega)]
   simp only [bindO_s,fLen_arr,List.length_map]
   exact mach_ports (l:=li ins ++ li outs) (by simp;omega) (fun p hp => (List.mem_append.1 hp).elim (hi.2 p) (ho.2 p)) _ _ _ _ _ _ _ _ 0 [] rfl
theorem capP_mul {n p:Nat} (hn:1 ≤ n ∧ n ≤ 256) (hp:1 ≤ p):(4096 < n * capP p ↔ 4096 < n * p) ∧ (¬ 4096 < n * p → capP p = p) ∧ (4096 < n * min p 2097152 ↔ 4096 < n * p) ∧ (¬ 4096 < n * p → min p 2097152 = p) ∧ n * capP p ≤ 281474976710656 ∧ n * min p 2097152 ≤ 281474976710656:=by
 have h1:1 * p ≤ n * p:=Nat.mul_le_mul_right _ hn.1
 have h2:1 * capP p ≤ n * capP p:=Nat.mul_le_mul_right _ hn.1
 have h3:1 * min p 2097152 ≤ n * min p 2097152:=Nat.mul_le_mul_right _ hn.1
 have h4:n * capP p ≤ 256 * 1099511627776:=Nat.mul_le_mul hn.2 (by unfold capP;split <;> omega)
 have h5:n * min p 2097152 ≤ 256 * 2097152:=Nat.mul_le_mul hn.2 (by omega)
 have h6:capP p = p ∨ (1099511627776 < p ∧ capP p = 1099511627776):=by unfold capP;split <;> omega
 have h7:min p 2097152 = p ∨ (2097152 < p ∧ min p 2097152 = 2097152):=by omega
 refine ⟨?_,?_,?_,?_,by omega,by omega⟩
 ·rcases h6 with h6 | ⟨h6,h6'⟩
  ·rw [h6]
  ·rw [h6'] at h2 ⊢;omega
 ·intro g;rcases h6 with h6 | ⟨h6,h6'⟩ <;> omega
 ·rcases h7 with h7 | ⟨h7,h7'⟩
  ·rw [h7]
  ·rw [h7'] at h3 ⊢;omega
 ·intro g;omega
theorem lens_ins {ins outs:List TPort} (h:portsGo [] (ins ++ outs) = 0):Lens ins:=fun p hp => portsGo_lens _ _ h p (by simp [hp])
theorem mach_check_ok {m:TMach} (h:SmM m):mach_Check (.agg (MC m)) = some (.int .i64 (checkP m)):=by
 have hcp:=mach_checkPorts_ok h
 obtain ⟨nm,sts,start,ins,outs,rows,⟨⟩⟩:=m
 obtain ⟨hn,hst,hi,ho,hr⟩:=h
 dsimp only at *
 simp only [MC] at hcp
 rw [mach_Check.eq]
 simp only [MC,fIsAgg_agg,List.length_cons,List.length_nil,fCell_zero,fCell_succ,fLen_sl,bindO_s,mach_isName_ok hn,fUn_not,fBin_eql,fBin_gtr,fCond_b,decide_eq_true_eq,Bool.not_eq_true',checkP,checkG]
 rw [show (0 + 1 + 1 + 1 + 1 + 1 + 1 == 6) = true from rfl,gB_t]
 by_cases g1:isNm nm = false
 ·simp only [g1,if_true]
 simp only [g1,if_false,reduceCtorEq]
 by_cases g2:((li sts).length:Int) = 0
 ·simp only [g2,if_true]
 simp only [g2,if_false]
 by_cases g3:256 < ((li sts).length:Int)
 ·simp only [g3,if_true]
 simp only [g3,if_false]
 rw [mach_Check.L0_eq]
 simp only [mach_names_ok hst,bindO_s,fBin_neq,fCond_b,decide_eq_true_eq,hcp,fBin_lss,fLen_sl,fBin_geq]
 by_cases g4:namesGo [] (li sts) ≠ 0
 ·simp only [g4,if_true,ne_eq,not_false_eq_true]
 simp only [g4,if_false]
 by_cases g5:8 < ((li ins).length:Int)
 ·simp only [g5,if_true];rfl
 simp only [g5,if_false]
 by_cases g6:8 < ((li outs).length:Int)
 ·simp only [g6,if_true];rfl
 simp only [g6,if_false]
 by_cases g7:portsGo [] (li ins ++ li outs) ≠ 0
 ·simp only [g7,if_true,ne_eq,not_false_eq_true]
 simp only [g7,if_false]
 by_cases g8:start < 0
 ·simp only [g8,if_true]
 simp only [g8,if_false]
 by_cases g9:((li sts).length:Int) ≤ start
 ·simp only [g9,if_true]
 simp only [g9,if_false]
 have hL:=lens_ins (Decidable.not_not.1 g7)
 obtain ⟨c1,c2,_,_,c5,_⟩:=capP_mul (n:=(li sts).length) (p:=prodL (li ins)) ⟨by omega,by omega⟩ (prodL_pos _ hL)
 have e:IntKind.i64.wrap (((li sts).length:Int) * (capP (prodL (li ins)):Int)) = (((li sts).length * capP (prodL (li ins)):Nat):Int):=by rw [wrap64 (by omega) (by omega)];omega
 rw [mach_Check.L1_eq]
 simp only [fLen_sl,bindO_s,mach_product_ok hi.1 hL,fBin_mul,e,fBin_gtr,fCond_b,decide_eq_true_eq,fBin_neq]
 by_cases g10:4096 < (li sts).length * prodL (li ins)
 ·rw [if_pos (by have:=c1.2 g10;omega),if_pos g10]
 rw [if_neg (by have:=fun g => g10 (c1.1 g);omega),if_neg g10,c2 g10]
 by_cases g11:(li rows).length ≠ (li sts).length * prodL (li ins)
 ·rw [if_pos (by omega),if_pos g11]
 rw [if_neg (by omega),if_neg g11]
 exact mach_rows ho.1 hr.1 _ _ _ _ _ 0 rfl
theorem ref_check_ok {m:TMach} (h:SmM m):ref02_Check (.agg (MC m)) = some (.int .i64 (checkP m)):=by
 obtain ⟨nm,sts,start,ins,outs,rows,⟨⟩⟩:=m
 obtain ⟨hn,hst,hi,ho,hr⟩:=h
 dsimp only at *
 rw [ref02_Check.eq]
 simp only [MC,fIsAgg_agg,List.length_cons,List.length_nil,fCell_zero,fCell_succ,fLen_sl,bindO_s,ref_isName_ok hn,fUn_not,fBin_eql,fBin_gtr,fCond_b,decide_eq_true_eq,Bool.not_eq_true',checkP,checkG]
 rw [show (0 + 1 + 1 + 1 + 1 + 1 + 1 == 6) = true from rfl,gB_t]
 by_cases g1:isNm nm = false
 ·simp only [g1,if_true]
 simp only [g1,if_false,reduceCtorEq]
 by_cases g2:((li sts).length:Int) = 0
 ·simp only [g2,if_true]
 simp only [g2,if_false]
 by_cases g3:256 < ((li sts).length:Int)
 ·simp only [g3,if_true]
 simp only [g3,if_false]
 rw [ref02_Check.L0_eq]
 simp only [ref_names_ok hst,bindO_s,fBin_neq,fCond_b,decide_eq_true_eq,fBin_gtr,fLen_sl]
 by_cases g4:namesGo [] (li sts) ≠ 0
 ·simp only [g4,if_true,ne_eq,not_false_eq_true]
 simp only [g4,if_false]
 by_cases g5:8 < ((li ins).length:Int)
 ·simp only [g5,if_true]
 simp only [g5,if_false]
 by_cases g6:8 < ((li outs).length:Int)
 ·simp only [g6,if_true]
 simp only [g6,if_false]
 rw [ref02_Check.L1_eq]
 simp only [asRows_sl,bindO_s,rowsSz_map P_len,gB_t,List.nil_append,List.length_map,show (0 + (li ins).length) * 40 ≤ room by unfold room;omega,show ((li ins).length + (li outs).length) * 40 ≤ room by unfold room;omega,decide_true]
 rw [← List.map_append,show (FV.int IntKind.i64 0) = .int .i64 ((0:Nat):Int) from rfl]
 rw [ref_ports (by simp;omega) (fun p hp => (List.mem_append.1 hp).elim (hi.2 p) (ho.2 p)) _ _ _ _ _ _ _ (li ins ++ li outs) 0 rfl (by omega)]
 simp only [List.take_zero,List.map_nil]
 by_cases g7:portsGo [] (li ins ++ li outs) ≠ 0
 ·simp only [g7,if_true,ne_eq,not_false_eq_true]
 simp only [g7,if_false]
 rw [ref02_Check.L2_eq]
 simp only [fLen_arr,List.length_map,bindO_s,fBin_lss,fCond_b,Int.lt_irrefl,decide_false,Bool.false_eq_true,if_false,decide_eq_true_eq,fLen_sl,fBin_geq]
 by_cases g8:start < 0
 ·simp only [g8,if_true]
 simp only [g8,if_false]
 by_cases g9:((li sts).length:Int) ≤ start
 ·simp only [g9,if_true]
 simp only [g9,if_false]
 have hL:=lens_ins (Decidable.not_not.1 g7)
 obtain ⟨_,_,c1,c2,_,c5⟩:=capP_mul (n:=(li sts).length) (p:=prodL (li ins)) ⟨by omega,by omega⟩ (prodL_pos _ hL)
 have e:IntKind.i64.wrap (((li sts).length:Int) * ((min (prodL (li ins)) 2097152:Nat):Int)) = (((li sts).length * min (prodL (li ins)) 2097152:Nat):Int):=by rw [← Int.natCast_mul,wrap64 (by omega) (by omega)]
 rw [ref02_Check.L4_eq]
 simp only [fLen_sl,bindO_s,ref_product_ok hi.1 hL,fBin_mul,e,fBin_gtr,fCond_b,decide_eq_true_eq,fBin_neq]
 by_cases g10:4096 < (li sts).length * prodL (li ins)
 ·rw [if_pos (by have:=c1.2 g10;omega),if_pos g10]
 rw [if_neg (by have:=fun g => g10 (c1.1 g);omega),if_neg g10,c2 g10]
 by_cases g11:(li rows).length ≠ (li sts).length * prodL (li ins)
 ·rw [if_pos (by omega),if_pos g11]
 rw [if_neg (by omega),if_neg g11]
 exact ref_rows ho.1 hr.1 _ _ _ _ _ 0 rfl
end Go.Proofs.Ytelcbakleaaneaa
end
section
namespace Go.Proofs.Ytelcbakleaaneaa
open Go Go.Proofs.Ytelcbakleaaneaa.VM
def LL (l:List Int):List FV:=[.arr (l.map I)]
def SI (o:Option (List Int)):List FV:=[sl I o]
@[simp] theorem LL_len (o:List Int):(LL o).length = 1:=rfl
@[simp] theorem LL_zero (o:List Int):(LL o)[0]? = some (.arr (o.map I)):=rfl
@[simp] theorem SI_len (o:Option (List Int)):(SI o).length = 1:=rfl
@[simp] theorem SI_zero (o:Option (List Int)):(SI o)[0]? = some (sl I o):=rfl
theorem sameInts_L0 {l:List Int} (hl:l.length < 1000000000000000):∀ (s:List Int) (k:Nat),l.drop k = s → ref02_sameInts.L0 (.arr (l.map I)) (.arr (l.map I)) (.int .i64 (k:Int)) = some (.bool true):=by
 intro s
 induction s with
 | nil =>
  intro k hd
  rw [ref02_sameInts.L0_eq]
  simp [drop_nil hd]
 | cons n s ih =>
  intro k hd
  obtain ⟨hk,hn,hs⟩:=drop_cons hd
  have e:IntKind.i64.wrap ((k:Int) + 1) = ((k + 1:Nat):Int):=wrap64 (by omega) (by omega)
  rw [ref02_sameInts.L0_eq]
  have hi:fIdxC 1 (.arr (l.map I)) (.int .i64 (k:Int)) = some (I n):=idx_arr (by simp [hn]) rfl
  simp only [fLen_arr,List.length_map,bindO_s,fBin_lss,fCond_b,decide_eq_true_eq,Int.ofNat_lt,hk,if_true,hi,I_zero,fBin_neq,ne_eq,not_true_eq_false,if_false,fBin_add,e,ih (k + 1) hs]
theorem sameInts_ok {l:List Int} (hl:l.length < 1000000000000000):ref02_sameInts (.arr (l.map I)) (.arr (l.map I)) = some (.bool true):=by
 rw [ref02_sameInts.eq]
 have:=sameInts_L0 hl l 0 rfl
 simp only [fLen_arr,bindO_s,fBin_neq,ne_eq,not_true_eq_false,decide_false,fCond_b,Bool.false_eq_true,if_false]
 exact this
theorem sameLists_L0 {l:List (List Int)} (hl:l.length < 1000000000000000) (hx:∀ x ∈ l,x.length < 1000000000000000):∀ (s:List (List Int)) (k:Nat),l.drop k = s → ref02_SameLists.L0 (.arr (l.map LL)) (.arr (l.map LL)) (.int .i64 (k:Int)) = some (.bool true):=by
 intro s
 induction s with
 | nil =>
  intro k hd
  rw [ref02_SameLists.L0_eq]
  simp [drop_nil hd]
 | cons x s ih =>
  intro k hd
  obtain ⟨hk,hn,hs⟩:=drop_cons hd
  have e:IntKind.i64.wrap ((k:Int) + 1) = ((k + 1:Nat):Int):=wrap64 (by omega) (by omega)
  rw [ref02_SameLists.L0_eq]
  have hi:fIdxC 1 (.arr (l.map LL)) (.int .i64 (k:Int)) = some (LL x):=idx_arr (by simp [hn]) rfl
  simp only [fLen_arr,List.length_map,bindO_s,fBin_lss,fCond_b,decide_eq_true_eq,Int.ofNat_lt,hk,if_true,hi,LL_zero,sameInts_ok (hx x (List.mem_of_getElem? hn)),fUn_not,Bool.not_true,Bool.false_eq_true,if_false,fBin_add,e,ih (k + 1) hs]
theorem sameLists_ok {l:List (List Int)} (hl:l.length < 1000000000000000) (hx:∀ x ∈ l,x.length < 1000000000000000):ref02_SameLists (.arr (l.map LL)) (.arr (l.map LL)) = some (.bool true):=by
 rw [ref02_SameLists.eq]
 have:=sameLists_L0 hl hx l 0 rfl
 simp only [fLen_arr,bindO_s,fBin_neq,ne_eq,not_true_eq_false,decide_false,fCond_b,Bool.false_eq_true,if_false]
 exact this
theorem sameLists_nil:ref02_SameLists .nilS .nilS = some (.bool true):=by
 rw [ref02_SameLists.eq,]
 simp only [fLen_nil,bindO_s,fBin_neq,ne_eq,not_true_eq_false,decide_false,fCond_b,Bool.false_eq_true,if_false]
 rw [ref02_SameLists.L0_eq]
 simp
structure OkM (sts:List Str) (start:Int) (ins outs:List TPort) (rows:List TRow):Prop where
 n1:1 ≤ sts.length ∧ sts.length ≤ 256
 i8:ins.length ≤ 8
 o8:outs.length ≤ 8
 lens:Lens ins
 olens:Lens outs
 st:0 ≤ start ∧ start < (sts.length:Int)
 small:sts.length * prodL ins ≤ 4096
 rlen:rows.length = sts.length * prodL ins
 rok:∀ r ∈ rows,rowOk sts.length outs r = true
theorem okM {nm:Str} {sts:List Str} {start:Int} {ins outs:List TPort} {rows:List TRow} (h:checkG nm sts start ins outs rows = 0):OkM sts start ins outs rows:=by
 unfold checkG at h
 by_cases g1:isNm nm = false
 ·rw [if_pos g1] at h;omega
 rw [if_neg g1] at h
 by_cases g2:(sts.length:Int) = 0
 ·rw [if_pos g2] at h;omega
 rw [if_neg g2] at h
 by_cases g3:256 < (sts.length:Int)
 ·rw [if_pos g3] at h;omega
 rw [if_neg g3] at h
 by_cases g4:namesGo [] sts ≠ 0
 ·rw [if_pos g4] at h;exact absurd h g4
 rw [if_neg g4] at h
 by_cases g5:8 < (ins.length:Int)
 ·rw [if_pos g5] at h;omega
 rw [if_neg g5] at h
 by_cases g6:8 < (outs.length:Int)
 ·rw [if_pos g6] at h;omega
 rw [if_neg g6] at h
 by_cases g7:portsGo [] (ins ++ outs) ≠ 0
 ·rw [if_pos g7] at h;exact absurd h g7
 rw [if_neg g7] at h
 by_cases g8:start < 0
 ·rw [if_pos g8] at h;omega
 rw [if_neg g8] at h
 by_cases g9:(sts.length:Int) ≤ start
 ·rw [if_pos g9] at h;omega
 rw [if_neg g9] at h
 by_cases g10:4096 < sts.length * prodL ins
 ·rw [if_pos g10] at h;omega
 rw [if_neg g10] at h
 by_cases g11:rows.length ≠ sts.length * prodL ins
 ·rw [if_pos g11] at h;omega
 rw [if_neg g11] at h
 by_cases g12:rowsOk sts.length outs rows = true
 ·have hl:=portsGo_lens _ _ (Decidable.not_not.1 g7)
  exact ⟨by omega,by omega,by omega,fun p hp => hl p (by simp [hp]),fun p hp => hl p (by simp [hp]),by omega,by omega,Decidable.not_not.1 g11,List.all_eq_true.1 g12⟩
 ·rw [if_neg g12] at h;omega
def numGo:List TPort → List Int → Nat → Nat
 | p :: ps,v :: vs,a => numGo ps vs (a * (li p.2.1).length + v.toNat)
 | _,_,a => a
theorem numGo_lt:∀ (ps:List TPort) (vs:List Int) (a:Nat),ps.length = vs.length → fitGo ps vs = true → numGo ps vs a + 1 ≤ (a + 1) * prodL ps
 | [],[],a,_,_ => by simp [numGo,prodL]
 | p :: ps,v :: vs,a,hl,h => by
  simp only [fitGo,Bool.and_eq_true,decide_eq_true_eq] at h
  obtain ⟨⟨h1,h2⟩,h3⟩:=h
  have ih:=numGo_lt ps vs (a * (li p.2.1).length + v.toNat) (by simpa using hl) h3
  have h4:a * (li p.2.1).length + v.toNat + 1 ≤ (a + 1) * (li p.2.1).length:=by rw [Nat.add_mul];omega
  have h5:=Nat.mul_le_mul_right (prodL ps) h4
  simp only [numGo,prodL]
  rw [← Nat.mul_assoc]
  omega
 | [],_ :: _,_,hl,_ => by simp at hl
 | _ :: _,[],_,hl,_ => by simp at hl
theorem index_L0 {o:Option (List TPort)} {v:Option (List Int)} (hs:(li o).length < 1000000000000000) (hl:(li o).length = (li v).length):∀ (ps:List TPort) (vs:List Int) (k a:Nat),(li o).drop k = ps → (li v).drop k = vs → Lens ps → fitGo ps vs = true → (a + 1) * prodL ps ≤ 4096 →
  ref02_Index.L0 (sl P o) (sl I v) (.int .i64 (a:Int)) (.int .i64 (k:Int)) = some (.int .i64 (numGo ps vs a:Int)):=by
 intro ps
 induction ps with
 | nil =>
  intro vs k a hd hv hL hf ha
  rw [ref02_Index.L0_eq]
  simp only [fLen_sl,bindO_s,fBin_lss,fCond_b,decide_eq_true_eq,Int.ofNat_lt,drop_nil hd,if_false,numGo]
 | cons p ps ih =>
  intro vs k a hd hv hL hf ha
  obtain ⟨hk,hn,hs'⟩:=drop_cons hd
  cases vs with
  | nil => have:=drop_nil hv;omega
  | cons n vs =>
   obtain ⟨_,hn2,hv'⟩:=drop_cons hv
   have e:IntKind.i64.wrap ((k:Int) + 1) = ((k + 1:Nat):Int):=wrap64 (by omega) (by omega)
   simp only [fitGo,Bool.and_eq_true,decide_eq_true_eq] at hf
   obtain ⟨⟨h1,h2⟩,h3⟩:=hf
   have hp:=prodL_pos ps (fun q hq => hL q (by simp [hq]))
   simp only [prodL] at ha
   have h4:a * (li p.2.1).length + n.toNat + 1 ≤ (a + 1) * (li p.2.1).length:=by rw [Nat.add_mul];omega
   have h5:=Nat.mul_le_mul_right (prodL ps) h4
   rw [← Nat.mul_assoc] at ha
   have h6:(a + 1) * (li p.2.1).length * 1 ≤ (a + 1) * (li p.2.1).length * prodL ps:=Nat.mul_le_mul_left _ hp
   have e2:IntKind.i64.wrap ((a:Int) * ((li p.2.1).length:Int)) = ((a * (li p.2.1).length:Nat):Int):=by rw [← Int.natCast_mul,wrap64 (by omega) (by omega)]
   have e3:IntKind.i64.wrap (((a * (li p.2.1).length:Nat):Int) + n) = ((a * (li p.2.1).length + n.toNat:Nat):Int):=by rw [wrap64 (by omega) (by omega)];omega
   rw [ref02_Index.L0_eq]
   simp only [fLen_sl,bindO_s,fBin_lss,fCond_b,decide_eq_true_eq,Int.ofNat_lt,hk,if_true,idx_sl hn2 (I_len n),I_zero,idx_sl hn (P_len p),P_one,fBin_mul,e2,fBin_add,e3,e,numGo]
   exact ih vs (k + 1) _ hs' hv' (fun q hq => hL q (by simp [hq])) h3 (by omega)
theorem index_ok {o:Option (List TPort)} {v:Option (List Int)} (hs:(li o).length < 1000000000000000) (hL:Lens (li o)) (hp:prodL (li o) ≤ 4096) (hf:fitP (li o) (li v) = true):ref02_Index (sl P o) (sl I v) = some (.int .i64 (numGo (li o) (li v) 0:Int)):=by
 simp only [fitP,Bool.and_eq_true,decide_eq_true_eq] at hf
 rw [ref02_Index.eq]
 exact index_L0 hs hf.1 _ _ 0 0 rfl rfl hL hf.2 (by omega)
theorem number_L0 {o:Option (List TPort)} {v:Option (List Int)} (hs:(li o).length < 1000000000000000) (hl:(li o).length = (li v).length):∀ (ps:List TPort) (vs:List Int) (k a:Nat),(li o).drop k = ps → (li v).drop k = vs → Lens ps → fitGo ps vs = true → (a + 1) * prodL ps ≤ 4096 →
  mach_number.L0 (sl P o) (.int .i64 (a:Int)) (sl I v) (.int .i64 ((li v).length:Int)) (.int .i64 (k:Int)) = some (.int .i64 (numGo ps vs a:Int)):=by
 intro ps
 induction ps with
 | nil =>
  intro vs k a hd hv hL hf ha
  rw [mach_number.L0_eq]
  simp only [fLen_sl,bindO_s,fBin_lss,fCond_b,decide_eq_true_eq,Int.ofNat_lt,hl ▸ drop_nil hd,if_false,numGo]
 | cons p ps ih =>
  intro vs k a hd hv hL hf ha
  obtain ⟨hk,hn,hs'⟩:=drop_cons hd
  cases vs with
  | nil => have:=drop_nil hv;omega
  | cons n vs =>
   obtain ⟨hk2,hn2,hv'⟩:=drop_cons hv
   have e:IntKind.i64.wrap ((k:Int) + 1) = ((k + 1:Nat):Int):=wrap64 (by omega) (by omega)
   simp only [fitGo,Bool.and_eq_true,decide_eq_true_eq] at hf
   obtain ⟨⟨h1,h2⟩,h3⟩:=hf
   have hp:=prodL_pos ps (fun q hq => hL q (by simp [hq]))
   simp only [prodL] at ha
   have h4:a * (li p.2.1).length + n.toNat + 1 ≤ (a + 1) * (li p.2.1).length:=by rw [Nat.add_mul];omega
   have h5:=Nat.mul_le_mul_right (prodL ps) h4
   rw [← Nat.mul_assoc] at ha
   have h6:(a + 1) * (li p.2.1).length * 1 ≤ (a + 1) * (li p.2.1).length * prodL ps:=Nat.mul_le_mul_left _ hp
   have e2:IntKind.i64.wrap ((a:Int) * ((li p.2.1).length:Int)) = ((a * (li p.2.1).length:Nat):Int):=by rw [← Int.natCast_mul,wrap64 (by omega) (by omega)]
   have e3:IntKind.i64.wrap (((a * (li p.2.1).length:Nat):Int) + n) = ((a * (li p.2.1).length + n.toNat:Nat):Int):=by rw [wrap64 (by omega) (by omega)];omega
   rw [mach_number.L0_eq]
   simp only [fLen_sl,bindO_s,fBin_lss,fCond_b,decide_eq_true_eq,Int.ofNat_lt,hk2,if_true,idx_sl hn2 (I_len n),I_zero,idx_sl hn (P_len p),P_one,fBin_mul,e2,fBin_add,e3,e,numGo]
   exact ih vs (k + 1) _ hs' hv' (fun q hq => hL q (by simp [hq])) h3 (by omega)
theorem number_ok {o:Option (List TPort)} {v:Option (List Int)} (hs:(li o).length < 1000000000000000) (hL:Lens (li o)) (hp:prodL (li o) ≤ 4096) (hf:fitP (li o) (li v) = true):mach_number (sl P o) (sl I v) = some (.int .i64 (numGo (li o) (li v) 0:Int)):=by
 simp only [fitP,Bool.and_eq_true,decide_eq_true_eq] at hf
 rw [mach_number.eq]
 simp only [fLen_sl,bindO_s]
 exact number_L0 hs hf.1 _ _ 0 0 rfl rfl hL hf.2 (by omega)
def rowAt (ins:List TPort) (rows:List TRow) (st:Nat) (v:List Int):TRow:=rows.getD (st * prodL ins + numGo ins v 0) default
section
variable {nm:Str} {sts:Option (List Str)} {start:Int} {ins outs:Option (List TPort)} {rows:Option (List TRow)}
theorem rowAt_get (h:OkM (li sts) start (li ins) (li outs) (li rows)) {st:Nat} (hst:st < (li sts).length) {v:List Int} (hf:fitP (li ins) v = true) :
  (li rows)[st * prodL (li ins) + numGo (li ins) v 0]? = some (rowAt (li ins) (li rows) st v) ∧ st * prodL (li ins) + numGo (li ins) v 0 < 4096 ∧ st * prodL (li ins) ≤ 4096 ∧ prodL (li ins) ≤ 4096:=by
 simp only [fitP,Bool.and_eq_true,decide_eq_true_eq] at hf
 have h1:=numGo_lt _ _ 0 hf.1 hf.2
 have h2:(st + 1) * prodL (li ins) ≤ (li sts).length * prodL (li ins):=Nat.mul_le_mul_right _ hst
 have h3:=h.small
 have h4:=h.rlen
 have h5:1 * prodL (li ins) ≤ (li sts).length * prodL (li ins):=Nat.mul_le_mul_right _ h.n1.1
 rw [Nat.add_mul] at h2
 have hlt:st * prodL (li ins) + numGo (li ins) v 0 < (li rows).length:=by omega
 refine ⟨?_,by omega,by omega,by omega⟩
 simp [rowAt,hlt]
theorem rowAt_ok (h:OkM (li sts) start (li ins) (li outs) (li rows)) {st:Nat} (hst:st < (li sts).length) {v:List Int} (hf:fitP (li ins) v = true) :
  0 ≤ (rowAt (li ins) (li rows) st v).1 ∧ (rowAt (li ins) (li rows) st v).1 < ((li sts).length:Int) ∧ (li (rowAt (li ins) (li rows) st v).2.1).length ≤ 8:=by
 have:=h.rok _ (List.mem_of_getElem? (rowAt_get h hst hf).1)
 simp only [rowOk,fitP,Bool.and_eq_true,decide_eq_true_eq] at this
 exact ⟨this.1.1,this.1.2,by have:=h.o8;omega⟩
theorem one_ok (h:OkM (li sts) start (li ins) (li outs) (li rows)) {st:Nat} (hst:st < (li sts).length) {v:Option (List Int)} (hf:fitP (li ins) (li v) = true) :
  ref02_one (.agg [.str nm,sl S sts,.int .i64 start,sl P ins,sl P outs,sl RW rows]) (.int .i64 (st:Int)) (sl I v) = some (.agg [.int .i64 (rowAt (li ins) (li rows) st (li v)).1,sl I (rowAt (li ins) (li rows) st (li v)).2.1]):=by
 obtain ⟨g1,g2,g3,g4⟩:=rowAt_get h hst hf
 have hi:=h.i8
 have e1:IntKind.i64.wrap ((st:Int) * ((prodL (li ins):Nat):Int)) = ((st * prodL (li ins):Nat):Int):=by rw [← Int.natCast_mul,wrap64 (by omega) (by omega)]
 have e2:IntKind.i64.wrap (((st * prodL (li ins):Nat):Int) + ((numGo (li ins) (li v) 0:Nat):Int)) = ((st * prodL (li ins) + numGo (li ins) (li v) 0:Nat):Int):=by rw [wrap64 (by omega) (by omega)];omega
 rw [ref02_one.eq]
 simp only [fIsAgg_agg,List.length_cons,List.length_nil,fCell_zero,fCell_succ,ref_product_ok (show (li ins).length < 1000000000000000 by omega) h.lens,Nat.min_eq_left (show prodL (li ins) ≤ 2097152 by omega),bindO_s,fBin_mul,e1,index_ok (show (li ins).length < 1000000000000000 by omega) h.lens g4 hf,fBin_add,e2,idx_sl g1 (RW_len _),RW_zero,RW_one]
 rfl
theorem clone_int {o:Option (List Int)} (h:(li o).length ≤ 8):slices_Clone_int (sl I o) = some (.arr ((li o).map I)):=by
 rw [slices_Clone_int.eq]
 simp only [asRows_sl,bindO_s,rowsSz_I,gB_t,List.length_map,show (0 + (li o).length) * 8 ≤ room by unfold room;omega,decide_true,List.nil_append,onFV_sl]
def stepF (r:Int × Option (List Int) × Int):FV:=.tup [.int .i64 r.1,sl I r.2.1,.int .i64 r.2.2]
end
end Go.Proofs.Ytelcbakleaaneaa
end
section
namespace Go.Proofs.Ytelcbakleaaneaa
open Go Go.Proofs.Ytelcbakleaaneaa.VM
def runM (ins:List TPort) (rows:List TRow):Nat → List (Option (List Int)) → List (List Int) × Nat
 | st,[] => ([],st)
 | st,x :: xs => (li (rowAt ins rows st (li x)).2.1 :: (runM ins rows (rowAt ins rows st (li x)).1.toNat xs).1,(runM ins rows (rowAt ins rows st (li x)).1.toNat xs).2)
def fitAll (ins:List TPort) (xs:List (Option (List Int))):Bool:=xs.all fun x => fitP ins (li x)
def runR (c:Int) (ins:List TPort) (rows:List TRow) (start:Int) (xs:List (Option (List Int))):Option (List (List Int)) × Int × Int :=
 if c ≠ 0 then (none,0,c) else if 4096 < (xs.length:Int) then (none,0,26) else if fitAll ins xs then (some (runM ins rows start.toNat xs).1,(runM ins rows start.toNat xs).2,0) else (none,0,27)
def runF (r:Option (List (List Int)) × Int × Int):FV:=.tup [sl LL r.1,.int .i64 r.2.1,.int .i64 r.2.2]
section
variable {nm:Str} {sts:Option (List Str)} {start:Int} {ins outs:Option (List TPort)} {rows:Option (List TRow)} {oi:Option (List (Option (List Int)))}
theorem mach_run_L1 (h:OkM (li sts) start (li ins) (li outs) (li rows)) (hx:(li oi).length ≤ 4096):∀ (t:List (Option (List Int))) (i st:Nat) (acc:List (List Int)),(li oi).drop i = t → st < (li sts).length → acc.length = i → fitAll (li ins) t = true →
  mach_Run.L1 (.int .i64 (st:Int)) (.int .i64 (prodL (li ins):Int)) (sl SI oi) (.int .i64 ((li oi).length:Int)) (.int .i64 (i:Int)) (.str nm) (sl S sts) (.int .i64 start) (sl P ins) (sl P outs) (sl RW rows) (acc.map LL) =
   some (.tup [.arr ((acc ++ (runM (li ins) (li rows) st t).1).map LL),.int .i64 ((runM (li ins) (li rows) st t).2:Int),.int .i64 0]):=by
 intro t
 have hi:=h.i8
 induction t with
 | nil =>
  intro i st acc hd hst hacc hf
  rw [mach_Run.L1_eq]
  simp only [fLen_sl,bindO_s,fBin_lss,fCond_b,decide_eq_true_eq,Int.ofNat_lt,drop_nil hd,if_false,runM,List.append_nil]
 | cons x t ih =>
  intro i st acc hd hst hacc hf
  obtain ⟨hk,hn,hs⟩:=drop_cons hd
  have e:IntKind.i64.wrap ((i:Int) + 1) = ((i + 1:Nat):Int):=wrap64 (by omega) (by omega)
  simp only [fitAll,List.all_cons,Bool.and_eq_true] at hf
  obtain ⟨g,hf⟩:=hf
  obtain ⟨r1,r2,r3⟩:=rowAt_ok h hst g
  obtain ⟨k1,k2,k3,k4⟩:=rowAt_get h hst g
  have e1:IntKind.i64.wrap ((st:Int) * ((prodL (li ins):Nat):Int)) = ((st * prodL (li ins):Nat):Int):=by rw [← Int.natCast_mul,wrap64 (by omega) (by omega)]
  have e2:IntKind.i64.wrap (((st * prodL (li ins):Nat):Int) + ((numGo (li ins) (li x) 0:Nat):Int)) = ((st * prodL (li ins) + numGo (li ins) (li x) 0:Nat):Int):=by rw [wrap64 (by omega) (by omega)];omega
  have est:(rowAt (li ins) (li rows) st (li x)).1 = (((rowAt (li ins) (li rows) st (li x)).1.toNat:Nat):Int):=by omega
  have ih':=ih (i + 1) (rowAt (li ins) (li rows) st (li x)).1.toNat (acc ++ [li (rowAt (li ins) (li rows) st (li x)).2.1]) hs (by omega) (by simp [hacc]) hf
  rw [← est] at ih'
  rw [mach_Run.L1_eq]
  simp only [fLen_sl,bindO_s,fBin_lss,fCond_b,decide_eq_true_eq,Int.ofNat_lt,hk,if_true,idx_sl hn (SI_len x),SI_zero,fBin_mul,e1,number_ok (show (li ins).length < 1000000000000000 by omega) h.lens k4 g,fBin_add,e2,idx_sl k1 (RW_len _),RW_zero,RW_one,clone_int r3,arrRows_arr,gB_t,List.length_map,show (acc.length + 1) * 24 ≤ room by unfold room;omega,decide_true,e,runM]
  rw [show acc.map LL ++ [[FV.arr ((li (rowAt (li ins) (li rows) st (li x)).2.1).map I)]] = (acc ++ [li (rowAt (li ins) (li rows) st (li x)).2.1]).map LL by simp [LL]]
  rw [ih']
  simp only [List.append_assoc,List.singleton_append]
theorem mach_run_L0 (h:OkM (li sts) start (li ins) (li outs) (li rows)) (hx:(li oi).length ≤ 4096):∀ (t:List (Option (List Int))) (i:Nat),(li oi).drop i = t →
  mach_Run.L0 (sl SI oi) (sl SI oi) (.int .i64 ((li oi).length:Int)) (.int .i64 (i:Int)) (.str nm) (sl S sts) (.int .i64 start) (sl P ins) (sl P outs) (sl RW rows) =
   if fitAll (li ins) t then mach_Run.L1 (.int .i64 start) (.int .i64 (prodL (li ins):Int)) (sl SI oi) (.int .i64 ((li oi).length:Int)) (.int .i64 0) (.str nm) (sl S sts) (.int .i64 start) (sl P ins) (sl P outs) (sl RW rows) [] else some (.tup [.nilS,.int .i64 0,.int .i64 27]):=by
 intro t
 have hi:=h.i8
 have h3:=h.small
 have h5:1 * prodL (li ins) ≤ (li sts).length * prodL (li ins):=Nat.mul_le_mul_right _ h.n1.1
 have hcap:capP (prodL (li ins)) = prodL (li ins):=by unfold capP;rw [if_neg (by omega)]
 induction t with
 | nil =>
  intro i hd
  rw [mach_Run.L0_eq]
  simp only [fLen_sl,bindO_s,fBin_lss,fCond_b,decide_eq_true_eq,Int.ofNat_lt,drop_nil hd,if_false,fitAll,List.all_nil,if_true,mach_product_ok (show (li ins).length < 1000000000000000 by omega) h.lens,hcap]
 | cons x t ih =>
  intro i hd
  obtain ⟨hk,hn,hs⟩:=drop_cons hd
  have e:IntKind.i64.wrap ((i:Int) + 1) = ((i + 1:Nat):Int):=wrap64 (by omega) (by omega)
  rw [mach_Run.L0_eq]
  simp only [fLen_sl,bindO_s,fBin_lss,fCond_b,decide_eq_true_eq,Int.ofNat_lt,hk,if_true,idx_sl hn (SI_len x),SI_zero,fit_ok (show (li ins).length < 1000000000000000 by omega),fUn_not,Bool.not_eq_true',fBin_add,e,ih (i + 1) hs,fitAll,List.all_cons]
  by_cases g:fitP (li ins) (li x) = true
  ·simp only [g,if_false,reduceCtorEq,Bool.true_and];rfl
  ·simp [g]
theorem mach_run_ok (w:SmM (nm,sts,start,ins,outs,rows,())) :
  mach_Run (.agg [.str nm,sl S sts,.int .i64 start,sl P ins,sl P outs,sl RW rows]) (sl SI oi) = some (runF (runR (checkG nm (li sts) start (li ins) (li outs) (li rows)) (li ins) (li rows) start (li oi))):=by
 have hc:=mach_check_ok w
 simp only [MC,checkP] at hc
 rw [mach_Run.eq]
 simp only [fIsAgg_agg,List.length_cons,List.length_nil,fCell_zero,fCell_succ,hc,bindO_s,fBin_neq,fCond_b,decide_eq_true_eq,fLen_sl,fBin_gtr,runR]
 rw [show (0 + 1 + 1 + 1 + 1 + 1 + 1 == 6) = true from rfl,gB_t]
 by_cases g1:checkG nm (li sts) start (li ins) (li outs) (li rows) ≠ 0
 ·simp only [g1,if_true,ne_eq,not_false_eq_true];rfl
 simp only [g1,if_false]
 by_cases g2:4096 < ((li oi).length:Int)
 ·simp only [g2,if_true];rfl
 simp only [g2,if_false]
 have hok:=okM (Decidable.not_not.1 g1)
 obtain ⟨s1,s2⟩:=hok.st
 have h0:=mach_run_L0 (nm:=nm) hok (show (li oi).length ≤ 4096 by omega) (li oi) 0 rfl
 refine h0.trans ?_
 by_cases g3:fitAll (li ins) (li oi) = true
 ·have h1:=mach_run_L1 (nm:=nm) hok (by omega) (li oi) 0 start.toNat [] rfl (by omega) rfl g3
  rw [show ((start.toNat:Nat):Int) = start by omega] at h1
  simp only [g3,if_true]
  refine h1.trans ?_
  rfl
 ·simp only [g3,if_false];rfl
end
end Go.Proofs.Ytelcbakleaaneaa
end
end
section
section
namespace Go.Proofs.Ytelcbakleaaneaa
open Go Go.Proofs.Ytelcbakleaaneaa.VM
abbrev TPart:=Str × Int × Unit
def PT (p:TPart):List FV:=[.str p.1,.int .i64 p.2.1]
abbrev TPin:=Int × Int × Unit
def PN (p:TPin):List FV:=[.int .i64 p.1,.int .i64 p.2.1]
abbrev TLink:=TPin × TPin × Int × Option (List Int) × Unit
def LK (l:TLink):List FV:=[.int .i64 l.1.1,.int .i64 l.1.2.1,.int .i64 l.2.1.1,.int .i64 l.2.1.2.1,.int .i64 l.2.2.1,sl I l.2.2.2.1]
abbrev TNet:=Str × Option (List TPart) × Option (List TLink) × Option (List TPin) × Option (List TPin) × Unit
def NT (n:TNet):List FV:=[.str n.1,sl PT n.2.1,sl LK n.2.2.1,sl PN n.2.2.2.1,sl PN n.2.2.2.2.1]
@[simp] theorem PT_len (p:TPart):(PT p).length = 2:=rfl
@[simp] theorem PT_zero (p:TPart):(PT p)[0]? = some (.str p.1):=rfl
@[simp] theorem PT_one (p:TPart):(PT p)[1]? = some (.int .i64 p.2.1):=rfl
@[simp] theorem PN_len (p:TPin):(PN p).length = 2:=rfl
@[simp] theorem PN_zero (p:TPin):(PN p)[0]? = some (.int .i64 p.1):=rfl
@[simp] theorem PN_one (p:TPin):(PN p)[1]? = some (.int .i64 p.2.1):=rfl
@[simp] theorem LK_len (l:TLink):(LK l).length = 6:=rfl
@[simp] theorem LK_zero (l:TLink):(LK l)[0]? = some (.int .i64 l.1.1):=rfl
@[simp] theorem LK_one (l:TLink):(LK l)[1]? = some (.int .i64 l.1.2.1):=rfl
@[simp] theorem LK_two (l:TLink):(LK l)[2]? = some (.int .i64 l.2.1.1):=rfl
@[simp] theorem LK_three (l:TLink):(LK l)[3]? = some (.int .i64 l.2.1.2.1):=rfl
@[simp] theorem LK_four (l:TLink):(LK l)[4]? = some (.int .i64 l.2.2.1):=rfl
@[simp] theorem LK_five (l:TLink):(LK l)[5]? = some (sl I l.2.2.2.1):=rfl
@[simp] theorem NT_len (n:TNet):(NT n).length = 5:=rfl
@[simp] theorem NT_zero (n:TNet):(NT n)[0]? = some (.str n.1):=rfl
@[simp] theorem NT_one (n:TNet):(NT n)[1]? = some (sl PT n.2.1):=rfl
@[simp] theorem NT_two (n:TNet):(NT n)[2]? = some (sl LK n.2.2.1):=rfl
@[simp] theorem NT_three (n:TNet):(NT n)[3]? = some (sl PN n.2.2.2.1):=rfl
@[simp] theorem NT_four (n:TNet):(NT n)[4]? = some (sl PN n.2.2.2.2.1):=rfl
@[simp] theorem MC_len (m:TMach):(MC m).length = 6:=rfl
@[simp] theorem MC_zero (m:TMach):(MC m)[0]? = some (.str m.1):=rfl
@[simp] theorem MC_one (m:TMach):(MC m)[1]? = some (sl S m.2.1):=rfl
@[simp] theorem MC_two (m:TMach):(MC m)[2]? = some (.int .i64 m.2.2.1):=rfl
@[simp] theorem MC_three (m:TMach):(MC m)[3]? = some (sl P m.2.2.2.1):=rfl
@[simp] theorem MC_four (m:TMach):(MC m)[4]? = some (sl P m.2.2.2.2.1):=rfl
@[simp] theorem MC_five (m:TMach):(MC m)[5]? = some (sl RW m.2.2.2.2.2.1):=rfl
def machinesGo:List Str → List TMach → Int
 | _,[] => 0
 | s,m :: l => if checkP m ≠ 0 then checkP m else if m.1 ∈ s then 22 else machinesGo (s ++ [m.1]) l
theorem machineAt_ok {l:List TMach} (hl:l.length < 1000000000000000) (s:Str):∃ m:Int,ref02_machineAt (.arr (l.map MC)) (.str s) = some (.int .i64 m) ∧ (0 ≤ m ↔ s ∈ l.map Prod.fst):=by
 obtain ⟨m,h1,h2⟩:=find_L (e:=MC) (nm:=Prod.fst) MC_len MC_zero (s:=s) (f:=ref02_machineAt.L0 (.arr (l.map MC)) (.str s)) hl (fun i => ref02_machineAt.L0_eq _ _ _) l 0 rfl
 exact ⟨m,by rw [ref02_machineAt.eq];exact h1,h2⟩
theorem partAt_ok {l:List TPart} (hl:l.length < 1000000000000000) (s:Str):∃ m:Int,ref02_partAt (.arr (l.map PT)) (.str s) = some (.int .i64 m) ∧ (0 ≤ m ↔ s ∈ l.map Prod.fst):=by
 obtain ⟨m,h1,h2⟩:=find_L (e:=PT) (nm:=Prod.fst) PT_len PT_zero (s:=s) (f:=ref02_partAt.L0 (.arr (l.map PT)) (.str s)) hl (fun i => ref02_partAt.L0_eq _ _ _) l 0 rfl
 exact ⟨m,by rw [ref02_partAt.eq];exact h1,h2⟩
theorem cut_sl {α:Type} {e:α → List FV} {n:Nat} (he:∀ a,(e a).length = n) {o:Option (List α)} {k:Nat} (hk:k < (li o).length):fCut n (sl e o) none (some (.int .i64 (k:Int))) = some (.arr (((li o).take k).map e)):=by
 cases o with
 | none => simp at hk
 | some r => rw [sl_some,fCut_take (rowsSz_map he _) (by simp at hk ⊢;omega),List.map_take];rfl
section
variable {o:Option (List TMach)}
theorem ref_machines_L0 (hl:(li o).length < 1000000000000000) (hsm:∀ m ∈ li o,SmM m):∀ (t:List TMach) (k:Nat),(li o).drop k = t →
  ref02_checkMachines.L0 (sl MC o) (.int .i64 (k:Int)) = some (.int .i64 (machinesGo (((li o).take k).map Prod.fst) t)):=by
 intro t
 induction t with
 | nil =>
  intro k hd
  rw [ref02_checkMachines.L0_eq]
  simp only [fLen_sl,bindO_s,fCond_b,fBin_lss,decide_eq_true_eq,Int.ofNat_lt,drop_nil hd,if_false,machinesGo]
 | cons m t ih =>
  intro k hd
  obtain ⟨hk,hn,hs⟩:=drop_cons hd
  have e1:IntKind.i64.wrap ((k:Int) + 1) = ((k + 1:Nat):Int):=wrap64 (by omega) (by omega)
  have hw:=hsm m (List.mem_of_getElem? hn)
  obtain ⟨j,h1,h2⟩:=machineAt_ok (l:=(li o).take k) (by simp;omega) m.1
  have htk:((li o).take (k + 1)).map Prod.fst = ((li o).take k).map Prod.fst ++ [m.1]:=by rw [List.take_add_one,hn];simp
  have ih':=ih (k + 1) hs
  rw [htk] at ih'
  have hc:=ref_check_ok hw
  simp only [MC] at hc
  rw [ref02_checkMachines.L0_eq]
  simp only [fLen_sl,bindO_s,fCond_b,fBin_lss,decide_eq_true_eq,Int.ofNat_lt,hk,if_true,idx_sl hn (MC_len m),MC_zero,MC_one,MC_two,MC_three,MC_four,MC_five,hc,fBin_neq,cut_sl MC_len hk,h1,fBin_geq,h2,fBin_add,e1,ih',machinesGo]
  by_cases g:checkP m ≠ 0
  ·simp only [g,if_true,ne_eq,not_false_eq_true]
  ·simp only [g,if_false]
   by_cases g2:m.1 ∈ ((li o).take k).map Prod.fst
   ·simp only [g2,if_true]
   ·simp only [g2,if_false]
theorem ref_machines_ok (hl:(li o).length < 1000000000000000) (hsm:∀ m ∈ li o,SmM m):ref02_checkMachines (sl MC o) = some (.int .i64 (machinesGo [] (li o))):=by
 rw [ref02_checkMachines.eq]
 exact ref_machines_L0 hl hsm _ 0 rfl
theorem mach_book_L0 (hl:(li o).length < 1000000000000000) (hsm:∀ m ∈ li o,SmM m) (x3 x4:FV):∀ (t:List TMach) (k:Nat) (s:List Str),(li o).drop k = t →
  mach_book.L0 (sl MC o) (.int .i64 ((li o).length:Int)) (.int .i64 (k:Int)) x3 x4 (setM FV.str s) = some (.int .i64 (machinesGo s t)):=by
 intro t
 induction t with
 | nil =>
  intro k s hd
  rw [mach_book.L0_eq]
  simp only [fLen_sl,bindO_s,fCond_b,fBin_lss,decide_eq_true_eq,Int.ofNat_lt,drop_nil hd,if_false,machinesGo]
 | cons m t ih =>
  intro k s hd
  obtain ⟨hk,hn,hs⟩:=drop_cons hd
  have e1:IntKind.i64.wrap ((k:Int) + 1) = ((k + 1:Nat):Int):=wrap64 (by omega) (by omega)
  have hw:=hsm m (List.mem_of_getElem? hn)
  have hc:=mach_check_ok hw
  simp only [MC] at hc
  rw [mach_book.L0_eq]
  simp only [fLen_sl,bindO_s,fCond_b,fBin_lss,decide_eq_true_eq,Int.ofNat_lt,hk,if_true,idx_sl hn (MC_len m),MC_zero,MC_one,MC_two,MC_three,MC_four,MC_five,hc,fBin_neq,mLook_set str_keyEq str_keyOk,str_keyOk,gB_t,fBin_add,e1,machinesGo]
  by_cases g:checkP m ≠ 0
  ·simp only [g,if_true,ne_eq,not_false_eq_true]
  ·simp only [g,if_false]
   by_cases g2:m.1 ∈ s
   ·simp only [g2,if_true]
   ·simp only [g2,if_false,mPut_set str_keyEq m.1 s g2,bindO_s,ih (k + 1) _ hs]
theorem mach_book_ok (hl:(li o).length < 1000000000000000) (hsm:∀ m ∈ li o,SmM m) (x:FV):mach_book (.agg [sl MC o,x]) = some (.int .i64 (machinesGo [] (li o))):=by
 rw [mach_book.eq]
 simp only [fIsAgg_agg,List.length_cons,List.length_nil,fCell_zero,fLen_sl,bindO_s]
 exact mach_book_L0 hl hsm _ _ _ 0 [] rfl
end
def partsGo (n:Nat):List Str → List TPart → Int
 | _,[] => 0
 | s,p :: l => if isNm p.1 = false then 21 else if p.1 ∈ s then 22 else if p.2.1 < 0 then 21 else if (n:Int) ≤ p.2.1 then 21 else partsGo n (s ++ [p.1]) l
theorem partsGo_in {n:Nat}:∀ (l:List TPart) (s:List Str),partsGo n s l = 0 → ∀ p ∈ l,0 ≤ p.2.1 ∧ p.2.1 < (n:Int)
 | [],_,_ => fun p hp => by cases hp
 | p :: l,s,h => by
  simp only [partsGo] at h
  by_cases g1:isNm p.1 = false
  ·rw [if_pos g1] at h;omega
  rw [if_neg g1] at h
  by_cases g2:p.1 ∈ s
  ·rw [if_pos g2] at h;omega
  rw [if_neg g2] at h
  by_cases g3:p.2.1 < 0
  ·rw [if_pos g3] at h;omega
  rw [if_neg g3] at h
  by_cases g4:(n:Int) ≤ p.2.1
  ·rw [if_pos g4] at h;omega
  rw [if_neg g4] at h
  intro q hq
  rcases List.mem_cons.1 hq with rfl | hq
  ·exact ⟨by omega,by omega⟩
  ·exact partsGo_in l _ h q hq
def insAt (ms:List TMach) (ps:List TPart) (i:Int):List TPort:=li (ms.getD (ps.getD i.toNat ([],0,())).2.1.toNat ([],none,0,none,none,none,())).2.2.2.1
def outsAt (ms:List TMach) (ps:List TPart) (i:Int):List TPort:=li (ms.getD (ps.getD i.toNat ([],0,())).2.1.toNat ([],none,0,none,none,none,())).2.2.2.2.1
def isInB (ms:List TMach) (ps:List TPart) (p:TPin):Bool:=decide (0 ≤ p.1) && (decide (p.1 < (ps.length:Int)) && (decide (0 ≤ p.2.1) && decide (p.2.1 < ((insAt ms ps p.1).length:Int))))
def isOutB (ms:List TMach) (ps:List TPart) (p:TPin):Bool:=decide (0 ≤ p.1) && (decide (p.1 < (ps.length:Int)) && (decide (0 ≤ p.2.1) && decide (p.2.1 < ((outsAt ms ps p.1).length:Int))))
def PartsIn (n:Nat) (ps:List TPart):Prop:=∀ p ∈ ps,0 ≤ p.2.1 ∧ p.2.1 < (n:Int)
section
variable {oms:Option (List TMach)} {ops:Option (List TPart)}
theorem part_get (hin:PartsIn (li oms).length (li ops)) {i:Int} (h0:0 ≤ i) (h1:i < ((li ops).length:Int)):∃ (p:TPart) (m:TMach),
  fIdxC 2 (sl PT ops) (.int .i64 i) = some (PT p) ∧ fIdxC 6 (sl MC oms) (.int .i64 p.2.1) = some (MC m) ∧ insAt (li oms) (li ops) i = li m.2.2.2.1 ∧ outsAt (li oms) (li ops) i = li m.2.2.2.2.1 ∧ m ∈ li oms:=by
 have hi:i.toNat < (li ops).length:=by omega
 have hp:(li ops)[i.toNat]? = some (li ops)[i.toNat]:=List.getElem?_eq_getElem hi
 obtain ⟨k0,k1⟩:=hin _ (List.mem_of_getElem? hp)
 have hm0:(li ops)[i.toNat].2.1.toNat < (li oms).length:=by omega
 have hm:(li oms)[(li ops)[i.toNat].2.1.toNat]? = some (li oms)[(li ops)[i.toNat].2.1.toNat]:=List.getElem?_eq_getElem hm0
 refine ⟨(li ops)[i.toNat],(li oms)[(li ops)[i.toNat].2.1.toNat],?_,?_,?_,?_,List.mem_of_getElem? hm⟩
 ·have:=idx_sl hp (PT_len _)
  rwa [show ((i.toNat:Nat):Int) = i by omega] at this
 ·have:=idx_sl hm (MC_len _)
  rwa [show (((li ops)[i.toNat].2.1.toNat:Nat):Int) = (li ops)[i.toNat].2.1 by omega] at this
 ·simp only [insAt,List.getD_eq_getElem?_getD,hp,hm,Option.getD_some]
 ·simp only [outsAt,List.getD_eq_getElem?_getD,hp,hm,Option.getD_some]
variable (hin:PartsIn (li oms).length (li ops))
include hin
theorem ref_isIn_ok (x0 x2 x3 x4:FV) (p:TPin):ref02_isIn (sl MC oms) (.agg [x0,sl PT ops,x2,x3,x4]) (.agg [.int .i64 p.1,.int .i64 p.2.1]) = some (.bool (isInB (li oms) (li ops) p)):=by
 rw [ref02_isIn.eq]
 simp only [fIsAgg_agg,List.length_cons,List.length_nil,fCell_zero,fCell_succ,fLen_sl,bindO_s,fBin_geq,fBin_lss,fCond_b,decide_eq_true_eq,isInB]
 rw [show (0 + 1 + 1 + 1 + 1 + 1 == 5) = true from rfl,gB_t,show (0 + 1 + 1 == 2) = true from rfl,gB_t]
 by_cases g1:0 ≤ p.1
 ·by_cases g2:p.1 < ((li ops).length:Int)
  ·obtain ⟨q,m,k1,k2,k3,k4,_⟩:=part_get hin g1 g2
   by_cases g3:0 ≤ p.2.1
   ·simp only [g1,g2,g3,if_true,k1,bindO_s,PT_one,k2,MC_three,fLen_sl,fBin_lss,k3,decide_true,Bool.true_and]
   ·simp only [g1,g2,g3,if_true,if_false,decide_false,Bool.false_and,Bool.and_false]
  ·simp only [g1,g2,if_true,if_false,decide_false,Bool.false_and,Bool.and_false]
 ·simp only [g1,if_false,decide_false,Bool.false_and]
theorem ref_isOut_ok (x0 x2 x3 x4:FV) (p:TPin):ref02_isOut (sl MC oms) (.agg [x0,sl PT ops,x2,x3,x4]) (.agg [.int .i64 p.1,.int .i64 p.2.1]) = some (.bool (isOutB (li oms) (li ops) p)):=by
 rw [ref02_isOut.eq]
 simp only [fIsAgg_agg,List.length_cons,List.length_nil,fCell_zero,fCell_succ,fLen_sl,bindO_s,fBin_geq,fBin_lss,fCond_b,decide_eq_true_eq,isOutB]
 rw [show (0 + 1 + 1 + 1 + 1 + 1 == 5) = true from rfl,gB_t,show (0 + 1 + 1 == 2) = true from rfl,gB_t]
 by_cases g1:0 ≤ p.1
 ·by_cases g2:p.1 < ((li ops).length:Int)
  ·obtain ⟨q,m,k1,k2,k3,k4,_⟩:=part_get hin g1 g2
   by_cases g3:0 ≤ p.2.1
   ·simp only [g1,g2,g3,if_true,k1,bindO_s,PT_one,k2,MC_four,fLen_sl,fBin_lss,k4,decide_true,Bool.true_and]
   ·simp only [g1,g2,g3,if_true,if_false,decide_false,Bool.false_and,Bool.and_false]
  ·simp only [g1,g2,if_true,if_false,decide_false,Bool.false_and,Bool.and_false]
 ·simp only [g1,if_false,decide_false,Bool.false_and]
theorem mach_isIn_ok (xn x0 x2 x3 x4:FV) (p:TPin):mach_isIn (.agg [sl MC oms,xn]) (.agg [x0,sl PT ops,x2,x3,x4]) (.agg [.int .i64 p.1,.int .i64 p.2.1]) = some (.bool (isInB (li oms) (li ops) p)):=by
 rw [mach_isIn.eq]
 simp only [fIsAgg_agg,List.length_cons,List.length_nil,fCell_zero,fCell_succ,fLen_sl,bindO_s,fBin_geq,fBin_lss,fCond_b,decide_eq_true_eq,isInB]
 rw [show (0 + 1 + 1 + 1 + 1 + 1 == 5) = true from rfl,gB_t,show (0 + 1 + 1 == 2) = true from rfl,gB_t,gB_t]
 by_cases g1:0 ≤ p.1
 ·by_cases g2:p.1 < ((li ops).length:Int)
  ·obtain ⟨q,m,k1,k2,k3,k4,_⟩:=part_get hin g1 g2
   by_cases g3:0 ≤ p.2.1
   ·simp only [g1,g2,g3,if_true,k1,bindO_s,PT_one,k2,MC_three,fLen_sl,fBin_lss,k3,decide_true,Bool.true_and]
   ·simp only [g1,g2,g3,if_true,if_false,decide_false,Bool.false_and,Bool.and_false]
  ·simp only [g1,g2,if_true,if_false,decide_false,Bool.false_and,Bool.and_false]
 ·simp only [g1,if_false,decide_false,Bool.false_and]
theorem mach_isOut_ok (xn x0 x2 x3 x4:FV) (p:TPin):mach_isOut (.agg [sl MC oms,xn]) (.agg [x0,sl PT ops,x2,x3,x4]) (.agg [.int .i64 p.1,.int .i64 p.2.1]) = some (.bool (isOutB (li oms) (li ops) p)):=by
 rw [mach_isOut.eq]
 simp only [fIsAgg_agg,List.length_cons,List.length_nil,fCell_zero,fCell_succ,fLen_sl,bindO_s,fBin_geq,fBin_lss,fCond_b,decide_eq_true_eq,isOutB]
 rw [show (0 + 1 + 1 + 1 + 1 + 1 == 5) = true from rfl,gB_t,show (0 + 1 + 1 == 2) = true from rfl,gB_t,gB_t]
 by_cases g1:0 ≤ p.1
 ·by_cases g2:p.1 < ((li ops).length:Int)
  ·obtain ⟨q,m,k1,k2,k3,k4,_⟩:=part_get hin g1 g2
   by_cases g3:0 ≤ p.2.1
   ·simp only [g1,g2,g3,if_true,k1,bindO_s,PT_one,k2,MC_four,fLen_sl,fBin_lss,k4,decide_true,Bool.true_and]
   ·simp only [g1,g2,g3,if_true,if_false,decide_false,Bool.false_and,Bool.and_false]
  ·simp only [g1,g2,if_true,if_false,decide_false,Bool.false_and,Bool.and_false]
 ·simp only [g1,if_false,decide_false,Bool.false_and]
def inAt (ms:List TMach) (ps:List TPart) (p:TPin):TPort:=(insAt ms ps p.1).getD p.2.1.toNat ([],none,())
def outAt (ms:List TMach) (ps:List TPart) (p:TPin):TPort:=(outsAt ms ps p.1).getD p.2.1.toNat ([],none,())
omit hin in
theorem isInB_iff {ms:List TMach} {ps:List TPart} {p:TPin}:isInB ms ps p = true ↔ 0 ≤ p.1 ∧ p.1 < (ps.length:Int) ∧ 0 ≤ p.2.1 ∧ p.2.1 < ((insAt ms ps p.1).length:Int):=by simp only [isInB,Bool.and_eq_true,decide_eq_true_eq]
omit hin in
theorem isOutB_iff {ms:List TMach} {ps:List TPart} {p:TPin}:isOutB ms ps p = true ↔ 0 ≤ p.1 ∧ p.1 < (ps.length:Int) ∧ 0 ≤ p.2.1 ∧ p.2.1 < ((outsAt ms ps p.1).length:Int):=by simp only [isOutB,Bool.and_eq_true,decide_eq_true_eq]
theorem in_get {p:TPin} (h:isInB (li oms) (li ops) p = true):∃ (q:TPart) (m:TMach),fIdxC 2 (sl PT ops) (.int .i64 p.1) = some (PT q) ∧ fIdxC 6 (sl MC oms) (.int .i64 q.2.1) = some (MC m) ∧ fIdxC 2 (sl P m.2.2.2.1) (.int .i64 p.2.1) = some (P (inAt (li oms) (li ops) p)) ∧ m ∈ li oms ∧ insAt (li oms) (li ops) p.1 = li m.2.2.2.1:=by
 obtain ⟨h0,h1,h2,h3⟩:=isInB_iff.1 h
 obtain ⟨q,m,k1,k2,k3,k4,k5⟩:=part_get hin h0 h1
 refine ⟨q,m,k1,k2,?_,k5,k3⟩
 have hi:p.2.1.toNat < (li m.2.2.2.1).length:=by rw [k3] at h3;omega
 have:=idx_sl (o:=m.2.2.2.1) (List.getElem?_eq_getElem hi) (P_len _)
 rw [show ((p.2.1.toNat:Nat):Int) = p.2.1 by omega] at this
 rw [this]
 simp only [inAt,k3,List.getD_eq_getElem?_getD,List.getElem?_eq_getElem hi,Option.getD_some]
theorem out_get {p:TPin} (h:isOutB (li oms) (li ops) p = true):∃ (q:TPart) (m:TMach),fIdxC 2 (sl PT ops) (.int .i64 p.1) = some (PT q) ∧ fIdxC 6 (sl MC oms) (.int .i64 q.2.1) = some (MC m) ∧ fIdxC 2 (sl P m.2.2.2.2.1) (.int .i64 p.2.1) = some (P (outAt (li oms) (li ops) p)) ∧ m ∈ li oms ∧ outsAt (li oms) (li ops) p.1 = li m.2.2.2.2.1:=by
 obtain ⟨h0,h1,h2,h3⟩:=isOutB_iff.1 h
 obtain ⟨q,m,k1,k2,k3,k4,k5⟩:=part_get hin h0 h1
 refine ⟨q,m,k1,k2,?_,k5,k4⟩
 have hi:p.2.1.toNat < (li m.2.2.2.2.1).length:=by rw [k4] at h3;omega
 have:=idx_sl (o:=m.2.2.2.2.1) (List.getElem?_eq_getElem hi) (P_len _)
 rw [show ((p.2.1.toNat:Nat):Int) = p.2.1 by omega] at this
 rw [this]
 simp only [outAt,k4,List.getD_eq_getElem?_getD,List.getElem?_eq_getElem hi,Option.getD_some]
theorem mach_in_ok (xn x0 x2 x3 x4:FV) {p:TPin} (h:isInB (li oms) (li ops) p = true):mach_in (.agg [sl MC oms,xn]) (.agg [x0,sl PT ops,x2,x3,x4]) (.agg [.int .i64 p.1,.int .i64 p.2.1]) = some (.agg (P (inAt (li oms) (li ops) p))):=by
 obtain ⟨q,m,k1,k2,k3,_,_⟩:=in_get hin h
 rw [mach_in.eq]
 simp only [fIsAgg_agg,List.length_cons,List.length_nil,fCell_zero,fCell_succ,bindO_s,k1,PT_one,k2,MC_three,k3,P_zero,P_one]
 rfl
theorem mach_out_ok (xn x0 x2 x3 x4:FV) {p:TPin} (h:isOutB (li oms) (li ops) p = true):mach_out (.agg [sl MC oms,xn]) (.agg [x0,sl PT ops,x2,x3,x4]) (.agg [.int .i64 p.1,.int .i64 p.2.1]) = some (.agg (P (outAt (li oms) (li ops) p))):=by
 obtain ⟨q,m,k1,k2,k3,_,_⟩:=out_get hin h
 rw [mach_out.eq]
 simp only [fIsAgg_agg,List.length_cons,List.length_nil,fCell_zero,fCell_succ,bindO_s,k1,PT_one,k2,MC_four,k3,P_zero,P_one]
 rfl
end
end Go.Proofs.Ytelcbakleaaneaa
end
section
namespace Go.Proofs.Ytelcbakleaaneaa
open Go Go.Proofs.Ytelcbakleaaneaa.VM
theorem pin_eq (a b:TPin):cellsEq [.int,.int] (PN a) (PN b) = some (decide (a = b)):=by
 obtain ⟨a1,a2,⟨⟩⟩:=a
 obtain ⟨b1,b2,⟨⟩⟩:=b
 have h1:(a1 == b1) = decide (a1 = b1):=by rw [Bool.eq_iff_iff];simp
 have h2:(a2 == b2) = decide (a2 = b2):=by rw [Bool.eq_iff_iff];simp
 simp only [PN,cellsEq,scalarEq,if_true,bindO_s,h1,h2,Bool.and_true,Prod.mk.injEq,and_true]
 by_cases g1:a1 = b1 <;> by_cases g2:a2 = b2 <;> simp [g1,g2]
theorem agg_eq (a b:TPin):fAggBin [.int,.int] .eql [.int .i64 a.1,.int .i64 a.2.1] [.int .i64 b.1,.int .i64 b.2.1] = some (.bool (decide (a = b))):=by
 have:=pin_eq a b
 simp only [PN] at this
 simp only [fAggBin,this,bindO_s]
def pinK (p:TPin):FV:=.agg [.int .i64 p.1,.int .i64 p.2.1]
theorem pin_keyEq (a b:TPin):keyEq true [.int,.int] (pinK a) (pinK b) = some (decide (a = b)):=pin_eq a b
theorem pin_keyOk (a:TPin):keyOk true [.int,.int] (pinK a) = true:=rfl
theorem linked_L0 {ol:Option (List TLink)} (hl:(li ol).length < 1000000000000000) (p:TPin) {n:Nat} (hn:n ≤ (li ol).length):∀ (t:List TLink) (k:Nat),((li ol).take n).drop k = t →
  ref02_linked.L0 (sl LK ol) (.int .i64 (n:Int)) (.int .i64 (k:Int)) (.int .i64 p.1) (.int .i64 p.2.1) = some (.bool (decide (p ∈ t.map fun l => l.2.1))):=by
 intro t
 induction t with
 | nil =>
  intro k hd
  have:=drop_nil hd
  rw [ref02_linked.L0_eq]
  simp only [bindO_s,fCond_b,fBin_lss,decide_eq_true_eq,Int.ofNat_lt,show ¬ k < n by simp at this;omega,if_false,List.map_nil,List.not_mem_nil,decide_false,Bool.false_eq_true,if_false]
 | cons l t ih =>
  intro k hd
  obtain ⟨hk,hn',hs⟩:=drop_cons hd
  have hkn:k < n:=by simp at hk;omega
  have hg:(li ol)[k]? = some l:=by rw [List.getElem?_take_of_lt hkn] at hn';exact hn'
  have e1:IntKind.i64.wrap ((k:Int) + 1) = ((k + 1:Nat):Int):=wrap64 (by omega) (by omega)
  rw [ref02_linked.L0_eq]
  simp only [bindO_s,fCond_b,fBin_lss,decide_eq_true_eq,Int.ofNat_lt,hkn,if_true,idx_sl hg (LK_len l),LK_two,LK_three,agg_eq,fBin_add,e1,ih (k + 1) hs,List.map_cons,List.mem_cons]
  by_cases g:l.2.1 = p
  ·simp [g]
  ·simp only [g,if_false,show ¬ p = l.2.1 from fun h => g h.symm,false_or]
theorem linked_ok {ol:Option (List TLink)} (hl:(li ol).length < 1000000000000000) (p:TPin) {n:Nat} (hn:n ≤ (li ol).length):ref02_linked (sl LK ol) (.int .i64 (n:Int)) (.agg [.int .i64 p.1,.int .i64 p.2.1]) = some (.bool (decide (p ∈ ((li ol).take n).map fun l => l.2.1))):=by
 rw [ref02_linked.eq]
 exact linked_L0 hl p hn _ 0 rfl
theorem has_L0 {x:FV} {l:List TPin} (hx:fLen x = some (.int .i64 (l.length:Int))) (hi:∀ (k:Nat) (q:TPin),l[k]? = some q → fIdxC 2 x (.int .i64 (k:Int)) = some (PN q)) (hl:l.length < 1000000000000000) (p:TPin):∀ (t:List TPin) (k:Nat),l.drop k = t →
  ref02_has.L0 x (.int .i64 (k:Int)) (.int .i64 p.1) (.int .i64 p.2.1) = some (.bool (decide (p ∈ t))):=by
 intro t
 induction t with
 | nil =>
  intro k hd
  rw [ref02_has.L0_eq]
  simp only [hx,bindO_s,fCond_b,fBin_lss,decide_eq_true_eq,Int.ofNat_lt,drop_nil hd,if_false,List.not_mem_nil,decide_false,Bool.false_eq_true,if_false]
 | cons q t ih =>
  intro k hd
  obtain ⟨hk,hn,hs⟩:=drop_cons hd
  have e1:IntKind.i64.wrap ((k:Int) + 1) = ((k + 1:Nat):Int):=wrap64 (by omega) (by omega)
  rw [ref02_has.L0_eq]
  simp only [hx,bindO_s,fCond_b,fBin_lss,decide_eq_true_eq,Int.ofNat_lt,hk,if_true,hi k q hn,PN_zero,PN_one,agg_eq,fBin_add,e1,ih (k + 1) hs,List.mem_cons]
  by_cases g:q = p
  ·simp [g]
  ·simp only [g,if_false,show ¬ p = q from fun h => g h.symm,false_or]
theorem has_arr {l:List TPin} (hl:l.length < 1000000000000000) (p:TPin):ref02_has (.arr (l.map PN)) (.agg [.int .i64 p.1,.int .i64 p.2.1]) = some (.bool (decide (p ∈ l))):=by
 rw [ref02_has.eq]
 exact has_L0 (by simp) (fun k q h => idx_arr (by simp [h]) (PN_len q)) hl p _ 0 rfl
theorem has_sl {o:Option (List TPin)} (hl:(li o).length < 1000000000000000) (p:TPin):ref02_has (sl PN o) (.agg [.int .i64 p.1,.int .i64 p.2.1]) = some (.bool (decide (p ∈ li o))):=by
 rw [ref02_has.eq]
 exact has_L0 (by simp) (fun k q h => idx_sl h (PN_len q)) hl p _ 0 rfl
def initOk (n:Nat) (vs:List Int):Bool:=vs.all fun v => decide (0 ≤ v) && decide (v < (n:Int))
def linkC (ms:List TMach) (ps:List TPart) (s:List TPin) (l:TLink):Int :=
 if isOutB ms ps l.1 = false then 24 else if isInB ms ps l.2.1 = false then 24 else if l.2.2.1 < 0 then 26 else if 100 < l.2.2.1 then 26
 else if ((li l.2.2.2.1).length:Int) ≠ l.2.2.1 then 24 else if initOk (li (outAt ms ps l.1).2.1).length (li l.2.2.2.1) = false then 27
 else if (li (inAt ms ps l.2.1).2.1).length < (li (outAt ms ps l.1).2.1).length then 24 else if l.2.1 ∈ s then 22 else 0
def linksGo (ms:List TMach) (ps:List TPart):List TPin → List TLink → Int
 | _,[] => 0
 | s,l :: ls => if linkC ms ps s l ≠ 0 then linkC ms ps s l else linksGo ms ps (s ++ [l.2.1]) ls
def fed (ls:List TLink):List TPin:=ls.map fun l => l.2.1
def SmL (l:TLink):Prop:=(li l.2.2.2.1).length < 1000000000000000
section
variable {oms:Option (List TMach)} {ops:Option (List TPart)} {ol:Option (List TLink)}
theorem link_init_L2 (x0 x1 x4:FV) (nm:FV) {l:TLink} {N:Nat} (hin:PartsIn (li oms).length (li ops)) (hi:isInB (li oms) (li ops) l.2.1 = true) (hl:SmL l) (hll:(li ol).length < 1000000000000000) {j:Nat} (hj:j ≤ (li ol).length) (x7 x8 x9 x10 x13:FV):∀ (t:List Int) (k:Nat),(li l.2.2.2.1).drop k = t →
  ref02_checkLink.L2 (sl MC oms) (.int .i64 (j:Int)) (.int .i64 (N:Int)) (.int .i64 (k:Int)) nm (sl PT ops) (sl LK ol) x7 x8 x9 x10 (.int .i64 l.2.1.1) (.int .i64 l.2.1.2.1) x13 (sl I l.2.2.2.1) =
   some (.int .i64 (if initOk N t = false then 27 else if (li (inAt (li oms) (li ops) l.2.1).2.1).length < N then 24 else if l.2.1 ∈ fed ((li ol).take j) then 22 else 0)):=by
 intro t
 induction t with
 | nil =>
  intro k hd
  obtain ⟨q,m,k1,k2,k3,_,_⟩:=in_get hin hi
  rw [ref02_checkLink.L2_eq]
  simp only [fLen_sl,bindO_s,fCond_b,fBin_lss,decide_eq_true_eq,Int.ofNat_lt,drop_nil hd,if_false,k1,PT_one,k2,MC_three,k3,P_one,fBin_gtr,linked_ok hll l.2.1 hj,initOk,List.all_nil,reduceCtorEq]
  simp only [fed]
  by_cases g1:(li (inAt (li oms) (li ops) l.2.1).2.1).length < N
  ·simp only [g1,if_true,if_false,reduceCtorEq,ne_eq,not_true_eq_false,not_false_eq_true]
  ·simp only [g1,if_true,if_false,reduceCtorEq,ne_eq,not_true_eq_false,not_false_eq_true]
   by_cases g2:l.2.1 ∈ List.map (fun l => l.2.1) (List.take j (li ol))
   ·simp only [g2,if_true,if_false,reduceCtorEq,ne_eq,not_true_eq_false,not_false_eq_true]
   ·simp only [g2,if_true,if_false,reduceCtorEq,ne_eq,not_true_eq_false,not_false_eq_true]
 | cons v t ih =>
  intro k hd
  obtain ⟨hk,hn,hs⟩:=drop_cons hd
  have e1:IntKind.i64.wrap ((k:Int) + 1) = ((k + 1:Nat):Int):=wrap64 (by unfold SmL at hl;omega) (by unfold SmL at hl;omega)
  rw [ref02_checkLink.L2_eq]
  simp only [fLen_sl,bindO_s,fCond_b,fBin_lss,decide_eq_true_eq,Int.ofNat_lt,hk,if_true,idx_sl hn (I_len v),I_zero,fBin_geq,fBin_add,e1,ih (k + 1) hs,initOk,List.all_cons]
  by_cases g1:v < 0
  ·simp [g1,show ¬ (0 ≤ v) by omega]
  ·by_cases g2:(N:Int) ≤ v
   ·simp [g1,g2,show ¬ (v < (N:Int)) by omega]
   ·simp only [g1,g2,if_false,show 0 ≤ v by omega,show v < (N:Int) by omega,decide_true,Bool.true_and,reduceCtorEq];rfl
theorem ref_link_ok (hin:PartsIn (li oms).length (li ops)) (hll:(li ol).length < 1000000000000000) (x0 x3 x4:FV) {k:Nat} {l:TLink} (hn:(li ol)[k]? = some l) (hl:SmL l) :
  ref02_checkLink (sl MC oms) (.agg [x0,sl PT ops,sl LK ol,x3,x4]) (.int .i64 (k:Int)) = some (.int .i64 (linkC (li oms) (li ops) (fed ((li ol).take k)) l)):=by
 have hk:k < (li ol).length:=by
  rcases Nat.lt_or_ge k (li ol).length with g | g
  ·exact g
  ·rw [List.getElem?_eq_none g] at hn;cases hn
 rw [ref02_checkLink.eq]
 simp only [fIsAgg_agg,List.length_cons,List.length_nil,fCell_zero,fCell_succ,idx_sl hn (LK_len l),LK_zero,LK_one,LK_two,LK_three,LK_four,LK_five,bindO_s,ref_isOut_ok hin,ref_isIn_ok hin,fUn_not,fCond_b,Bool.not_eq_true',linkC]
 rw [show (0 + 1 + 1 + 1 + 1 + 1 == 5) = true from rfl,gB_t]
 by_cases g1:isOutB (li oms) (li ops) l.1 = false
 ·simp only [g1,if_true,if_false,reduceCtorEq,ne_eq,not_true_eq_false,not_false_eq_true]
 simp only [g1,if_true,if_false,reduceCtorEq,ne_eq,not_true_eq_false,not_false_eq_true]
 by_cases g2:isInB (li oms) (li ops) l.2.1 = false
 ·simp only [g2,if_true,if_false,reduceCtorEq,ne_eq,not_true_eq_false,not_false_eq_true]
 simp only [g2,if_true,if_false,reduceCtorEq,ne_eq,not_true_eq_false,not_false_eq_true]
 rw [ref02_checkLink.L0_eq]
 simp only [bindO_s,fBin_lss,fCond_b,decide_eq_true_eq,fBin_gtr]
 by_cases g3:l.2.2.1 < 0
 ·simp only [g3,if_true,if_false,reduceCtorEq,ne_eq,not_true_eq_false,not_false_eq_true]
 simp only [g3,if_true,if_false,reduceCtorEq,ne_eq,not_true_eq_false,not_false_eq_true]
 by_cases g4:100 < l.2.2.1
 ·simp only [g4,if_true,if_false,reduceCtorEq,ne_eq,not_true_eq_false,not_false_eq_true]
 simp only [g4,if_true,if_false,reduceCtorEq,ne_eq,not_true_eq_false,not_false_eq_true]
 have g1':isOutB (li oms) (li ops) l.1 = true:=by simpa using g1
 have g2':isInB (li oms) (li ops) l.2.1 = true:=by simpa using g2
 obtain ⟨q,m,k1,k2,k3,_,_⟩:=out_get hin g1'
 rw [ref02_checkLink.L1_eq]
 simp only [fLen_sl,bindO_s,fBin_neq,fCond_b,decide_eq_true_eq,k1,PT_one,k2,MC_four,k3,P_one]
 by_cases g5:((li l.2.2.2.1).length:Int) ≠ l.2.2.1
 ·simp only [g5,if_true,if_false,reduceCtorEq,ne_eq,not_true_eq_false,not_false_eq_true]
 simp only [g5,if_true,if_false,reduceCtorEq,ne_eq,not_true_eq_false,not_false_eq_true]
 exact link_init_L2 (x0:=x0) (x1:=x0) (x4:=x0) x0 hin g2' hl hll (Nat.le_of_lt hk) _ _ _ _ _ _ 0 rfl
theorem pinK_eq (p:TPin):FV.agg [.int .i64 p.1,.int .i64 p.2.1] = pinK p:=rfl
theorem mach_link_L3 (hin:PartsIn (li oms).length (li ops)) {l:TLink} {N:Nat} (hi:isInB (li oms) (li ops) l.2.1 = true) (hl:SmL l) (x1 x2 x8 x9 x12 x13 x16 x17 x20 x21:FV) {j:Nat} (hj:j < 1000000000000000) (s:List TPin) (es15:List (FV × FV)):∀ (t:List Int) (k:Nat),(li l.2.2.2.1).drop k = t →
  mach_checkLinks.L3 (.int .i64 (N:Int)) x1 x2 (.int .i64 (j:Int)) (sl I l.2.2.2.1) (.int .i64 ((li l.2.2.2.1).length:Int)) (.int .i64 (k:Int)) (sl MC oms) x8 x9 (sl PT ops) (sl LK ol) x12 x13 (setM pinK s) es15 x16 x17 (.int .i64 l.2.1.1) (.int .i64 l.2.1.2.1) x20 x21 =
   (if initOk N t = false then some (.int .i64 27) else if (li (inAt (li oms) (li ops) l.2.1).2.1).length < N then some (.int .i64 24) else if l.2.1 ∈ s then some (.int .i64 22) else
    mach_checkLinks.L0 x1 x2 (.int .i64 ((j + 1:Nat):Int)) (sl MC oms) x8 x9 (sl PT ops) (sl LK ol) x12 x13 (setM pinK (s ++ [l.2.1])) es15):=by
 intro t
 induction t with
 | nil =>
  intro k hd
  have e1:IntKind.i64.wrap ((j:Int) + 1) = ((j + 1:Nat):Int):=wrap64 (by omega) (by omega)
  have hlook:=mLook_set pin_keyEq pin_keyOk l.2.1 s
  have hput:=mPut_set pin_keyEq l.2.1 s
  rw [mach_checkLinks.L3_eq]
  rw [mach_in_ok hin x8 x9 (sl LK ol) x12 x13 hi]
  simp only [fLen_sl,bindO_s,fCond_b,fBin_lss,decide_eq_true_eq,Int.ofNat_lt,drop_nil hd,if_false,P,fIsAgg_agg,List.length_cons,List.length_nil,fCell_zero,fCell_succ,fBin_gtr,initOk,List.all_nil,reduceCtorEq,pinK_eq,hlook,pin_keyOk,gB_t,fBin_add,e1]
  rw [show (0 + 1 + 1 == 2) = true from rfl,gB_t]
  by_cases g1:(li (inAt (li oms) (li ops) l.2.1).2.1).length < N
  ·simp only [g1,if_true,if_false,reduceCtorEq,ne_eq,not_true_eq_false,not_false_eq_true]
  ·simp only [g1,if_true,if_false,reduceCtorEq,ne_eq,not_true_eq_false,not_false_eq_true]
   by_cases g2:l.2.1 ∈ s
   ·simp only [g2,if_true,if_false,reduceCtorEq,ne_eq,not_true_eq_false,not_false_eq_true]
   ·simp only [g2,if_false,reduceCtorEq,hput g2,bindO_s]
 | cons v t ih =>
  intro k hd
  obtain ⟨hk,hn,hs⟩:=drop_cons hd
  have e1:IntKind.i64.wrap ((k:Int) + 1) = ((k + 1:Nat):Int):=wrap64 (by unfold SmL at hl;omega) (by unfold SmL at hl;omega)
  rw [mach_checkLinks.L3_eq]
  simp only [fLen_sl,bindO_s,fCond_b,fBin_lss,decide_eq_true_eq,Int.ofNat_lt,hk,if_true,idx_sl hn (I_len v),I_zero,fBin_geq,fBin_add,e1,ih (k + 1) hs,initOk,List.all_cons]
  by_cases g1:v < 0
  ·simp [g1,show ¬ (0 ≤ v) by omega]
  ·by_cases g2:(N:Int) ≤ v
   ·simp [g1,g2,show ¬ (v < (N:Int)) by omega]
   ·simp only [g1,g2,if_false,show 0 ≤ v by omega,show v < (N:Int) by omega,decide_true,Bool.true_and,reduceCtorEq];rfl
theorem mach_links_L0 (hin:PartsIn (li oms).length (li ops)) (hll:(li ol).length < 1000000000000000) (hsm:∀ l ∈ li ol,SmL l) (x4 x5 x8 x9:FV) (es11:List (FV × FV)):∀ (t:List TLink) (k:Nat),(li ol).drop k = t →
  mach_checkLinks.L0 (sl LK ol) (.int .i64 ((li ol).length:Int)) (.int .i64 (k:Int)) (sl MC oms) x4 x5 (sl PT ops) (sl LK ol) x8 x9 (setM pinK (fed ((li ol).take k))) es11 =
   (if linksGo (li oms) (li ops) (fed ((li ol).take k)) t ≠ 0 then some (.int .i64 (linksGo (li oms) (li ops) (fed ((li ol).take k)) t)) else
    mach_checkLinks.L0 (sl LK ol) (.int .i64 ((li ol).length:Int)) (.int .i64 ((li ol).length:Int)) (sl MC oms) x4 x5 (sl PT ops) (sl LK ol) x8 x9 (setM pinK (fed (li ol))) es11):=by
 intro t
 induction t with
 | nil =>
  intro k hd
  have hk:=drop_nil hd
  simp only [linksGo,ne_eq,not_true_eq_false,if_false]
  rw [List.take_of_length_le (by omega)]
  rw [mach_checkLinks.L0_eq,mach_checkLinks.L0_eq]
  simp only [bindO_s,fCond_b,fBin_lss,decide_eq_true_eq,Int.ofNat_lt,hk,if_false,Int.lt_irrefl]
 | cons l t ih =>
  intro k hd
  obtain ⟨hk,hn,hs⟩:=drop_cons hd
  have hl:=hsm l (List.mem_of_getElem? hn)
  have htk:fed ((li ol).take (k + 1)) = fed ((li ol).take k) ++ [l.2.1]:=by rw [List.take_add_one,hn];simp [fed]
  have ih':=ih (k + 1) hs
  rw [htk] at ih'
  rw [mach_checkLinks.L0_eq]
  simp only [bindO_s,fCond_b,fBin_lss,decide_eq_true_eq,Int.ofNat_lt,hk,if_true,idx_sl hn (LK_len l),LK_zero,LK_one,LK_two,LK_three,LK_four,LK_five,mach_isOut_ok hin,mach_isIn_ok hin,fUn_not,Bool.not_eq_true',fBin_gtr,fLen_sl,fBin_neq,linksGo,linkC]
  by_cases g1:isOutB (li oms) (li ops) l.1 = false
  ·simp [g1]
  simp only [g1,if_true,if_false,reduceCtorEq,ne_eq,not_true_eq_false,not_false_eq_true]
  by_cases g2:isInB (li oms) (li ops) l.2.1 = false
  ·simp [g2]
  simp only [g2,if_true,if_false,reduceCtorEq,ne_eq,not_true_eq_false,not_false_eq_true]
  by_cases g3:l.2.2.1 < 0
  ·simp [g3]
  simp only [g3,if_true,if_false,reduceCtorEq,ne_eq,not_true_eq_false,not_false_eq_true]
  by_cases g4:100 < l.2.2.1
  ·simp [g4]
  simp only [g4,if_true,if_false,reduceCtorEq,ne_eq,not_true_eq_false,not_false_eq_true]
  by_cases g5:((li l.2.2.2.1).length:Int) ≠ l.2.2.1
  ·simp [g5]
  simp only [g5,if_true,if_false,reduceCtorEq,ne_eq,not_true_eq_false,not_false_eq_true]
  have g1':isOutB (li oms) (li ops) l.1 = true:=by simpa using g1
  have g2':isInB (li oms) (li ops) l.2.1 = true:=by simpa using g2
  rw [mach_checkLinks.L2_eq,mach_checkLinks.L1_eq]
  simp only [mach_out_ok hin x4 x5 (sl LK ol) x8 x9 g1',bindO_s,P,fIsAgg_agg,List.length_cons,List.length_nil,fCell_zero,fCell_succ,fLen_sl]
  rw [show (0 + 1 + 1 == 2) = true from rfl,gB_t]
  have h3:=mach_link_L3 (ol:=ol) (N:=(li (outAt (li oms) (li ops) l.1).2.1).length) hin g2' hl (sl LK ol) (.int .i64 ((li ol).length:Int)) x4 x5 x8 x9 (.int .i64 l.1.1) (.int .i64 l.1.2.1) (.int .i64 l.2.2.1) (sl I l.2.2.2.1) (j:=k) (by omega) (fed ((li ol).take k)) es11 _ 0 rfl
  refine Eq.trans h3 ?_
  rw [ih']
  simp only [List.drop_zero]
  by_cases g6:initOk (li (outAt (li oms) (li ops) l.1).2.1).length (li l.2.2.2.1) = false
  ·simp [g6]
  simp only [g6,if_true,if_false,reduceCtorEq,ne_eq,not_true_eq_false,not_false_eq_true]
  by_cases g7:(li (inAt (li oms) (li ops) l.2.1).2.1).length < (li (outAt (li oms) (li ops) l.1).2.1).length
  ·simp [g7]
  simp only [g7,if_true,if_false,reduceCtorEq,ne_eq,not_true_eq_false,not_false_eq_true]
  by_cases g8:l.2.1 ∈ fed ((li ol).take k)
  ·simp [g8]
  simp only [g8,if_true,if_false,reduceCtorEq,ne_eq,not_true_eq_false,not_false_eq_true]
end
end Go.Proofs.Ytelcbakleaaneaa
end
section
namespace Go.Proofs.Ytelcbakleaaneaa
open Go Go.Proofs.Ytelcbakleaaneaa.VM
def insGo (ms:List TMach) (ps:List TPart):List TPin → List TPin → Int
 | _,[] => 0
 | s,p :: l => if isInB ms ps p = false then 24 else if p ∈ s then 22 else insGo ms ps (s ++ [p]) l
def outsGo (ms:List TMach) (ps:List TPart):List TPin → List TPin → Int
 | _,[] => 0
 | s,p :: l => if isOutB ms ps p = false then 24 else if p ∈ s then 22 else outsGo ms ps (s ++ [p]) l
def allTo (f:Nat → Bool) (n k:Nat):Bool:=(List.range' k (n - k)).all f
theorem allTo_end {f:Nat → Bool} {n k:Nat} (h:¬ k < n):allTo f n k = true:=by
 unfold allTo
 rw [show n - k = 0 by omega]
 rfl
theorem allTo_step {f:Nat → Bool} {n k:Nat} (h:k < n):allTo f n k = (f k && allTo f n (k + 1)):=by
 unfold allTo
 rw [show n - k = (n - (k + 1)) + 1 by omega,List.range'_succ]
 rfl
def wholeB (ms:List TMach) (ps:List TPart) (s:List TPin):Bool:=allTo (fun a => allTo (fun b => decide (((a:Int),(b:Int),()) ∈ s)) (insAt ms ps (a:Int)).length 0) ps.length 0
section
variable {oms:Option (List TMach)} {ops:Option (List TPart)} {ol:Option (List TLink)} {oi oo:Option (List TPin)}
variable (hin:PartsIn (li oms).length (li ops)) (hll:(li ol).length < 1000000000000000) (hli:(li oi).length < 1000000000000000) (hlo:(li oo).length < 1000000000000000)
include hin hll hli hlo
theorem ref_ins_L4 (x2 x3:FV):∀ (t:List TPin) (k:Nat),(li oi).drop k = t →
  ref02_CheckNet.L4 (.int .i64 (k:Int)) (sl MC oms) x2 x3 (sl PT ops) (sl LK ol) (sl PN oi) (sl PN oo) =
   (if insGo (li oms) (li ops) (fed (li ol) ++ (li oi).take k) t ≠ 0 then some (.int .i64 (insGo (li oms) (li ops) (fed (li ol) ++ (li oi).take k) t)) else ref02_CheckNet.L5 (.int .i64 ((0:Nat):Int)) (sl MC oms) x2 x3 (sl PT ops) (sl LK ol) (sl PN oi) (sl PN oo)):=by
 intro t
 induction t with
 | nil =>
  intro k hd
  rw [ref02_CheckNet.L4_eq]
  simp only [fLen_sl,bindO_s,fCond_b,fBin_lss,decide_eq_true_eq,Int.ofNat_lt,drop_nil hd,if_false,insGo,ne_eq,not_true_eq_false]
  rfl
 | cons p t ih =>
  intro k hd
  obtain ⟨hk,hn,hs⟩:=drop_cons hd
  have e1:IntKind.i64.wrap ((k:Int) + 1) = ((k + 1:Nat):Int):=wrap64 (by omega) (by omega)
  have htk:fed (li ol) ++ (li oi).take (k + 1) = fed (li ol) ++ (li oi).take k ++ [p]:=by rw [List.take_add_one,hn];simp
  have ih':=ih (k + 1) hs
  rw [htk] at ih'
  have hlk:=linked_ok (ol:=ol) hll p (Nat.le_refl _)
  rw [List.take_length] at hlk
  have hhas:=has_arr (l:=(li oi).take k) (by simp;omega) p
  rw [ref02_CheckNet.L4_eq]
  simp only [fLen_sl,bindO_s,fCond_b,fBin_lss,decide_eq_true_eq,Int.ofNat_lt,hk,if_true,idx_sl hn (PN_len p),PN_zero,PN_one,ref_isIn_ok hin,fUn_not,Bool.not_eq_true',hlk,cut_sl PN_len hk,hhas,fBin_add,e1,ih',insGo,List.mem_append]
  by_cases g1:isInB (li oms) (li ops) p = false
  ·simp [g1]
  simp only [g1,if_false,reduceCtorEq]
  by_cases g2:p ∈ fed (li ol)
  ·simp [g2,show p ∈ List.map (fun l => l.2.1) (li ol) from g2]
  ·simp only [g2,show ¬ p ∈ List.map (fun l => l.2.1) (li ol) from g2,if_false,false_or]
   by_cases g3:p ∈ (li oi).take k
   ·simp [g3]
   ·simp only [g3,if_false]
omit hll hli in
theorem ref_outs_L5 (x2 x3:FV):∀ (t:List TPin) (k:Nat),(li oo).drop k = t →
  ref02_CheckNet.L5 (.int .i64 (k:Int)) (sl MC oms) x2 x3 (sl PT ops) (sl LK ol) (sl PN oi) (sl PN oo) =
   (if outsGo (li oms) (li ops) ((li oo).take k) t ≠ 0 then some (.int .i64 (outsGo (li oms) (li ops) ((li oo).take k) t)) else ref02_CheckNet.L5 (.int .i64 ((li oo).length:Int)) (sl MC oms) x2 x3 (sl PT ops) (sl LK ol) (sl PN oi) (sl PN oo)):=by
 intro t
 induction t with
 | nil =>
  intro k hd
  have:=drop_nil hd
  rw [ref02_CheckNet.L5_eq,ref02_CheckNet.L5_eq]
  simp only [fLen_sl,bindO_s,fCond_b,fBin_lss,decide_eq_true_eq,Int.ofNat_lt,drop_nil hd,Int.lt_irrefl,if_false,outsGo,ne_eq,not_true_eq_false]
 | cons p t ih =>
  intro k hd
  obtain ⟨hk,hn,hs⟩:=drop_cons hd
  have e1:IntKind.i64.wrap ((k:Int) + 1) = ((k + 1:Nat):Int):=wrap64 (by omega) (by omega)
  have htk:(li oo).take (k + 1) = (li oo).take k ++ [p]:=by rw [List.take_add_one,hn];simp
  have ih':=ih (k + 1) hs
  rw [htk] at ih'
  have hhas:=has_arr (l:=(li oo).take k) (by simp;omega) p
  rw [ref02_CheckNet.L5_eq]
  simp only [fLen_sl,bindO_s,fCond_b,fBin_lss,decide_eq_true_eq,Int.ofNat_lt,hk,if_true,idx_sl hn (PN_len p),PN_zero,PN_one,ref_isOut_ok hin,fUn_not,Bool.not_eq_true',cut_sl PN_len hk,hhas,fBin_add,e1,ih',outsGo]
  by_cases g1:isOutB (li oms) (li ops) p = false
  ·simp [g1]
  simp only [g1,if_false,reduceCtorEq]
  by_cases g3:p ∈ (li oo).take k
  ·simp [g3]
  ·simp only [g3,if_false]
omit hll hlo in
theorem mach_ins_L4 (x4 x5:FV):∀ (t:List TPin) (k:Nat) (s:List TPin),(li oi).drop k = t →
  mach_checkLinks.L4 (sl PN oi) (.int .i64 ((li oi).length:Int)) (.int .i64 (k:Int)) (sl MC oms) x4 x5 (sl PT ops) (sl LK ol) (sl PN oi) (sl PN oo) (setM pinK s) [] =
   (if insGo (li oms) (li ops) s t ≠ 0 then some (.int .i64 (insGo (li oms) (li ops) s t)) else mach_checkLinks.L5 (sl PN oo) (.int .i64 ((li oo).length:Int)) (.int .i64 ((0:Nat):Int)) (sl MC oms) x4 x5 (sl PT ops) (sl LK ol) (sl PN oi) (sl PN oo) (setM pinK (s ++ t)) (setM pinK [])):=by
 intro t
 induction t with
 | nil =>
  intro k s hd
  rw [mach_checkLinks.L4_eq]
  simp only [fLen_sl,bindO_s,fCond_b,fBin_lss,decide_eq_true_eq,Int.ofNat_lt,drop_nil hd,if_false,insGo,ne_eq,not_true_eq_false,List.append_nil]
  rfl
 | cons p t ih =>
  intro k s hd
  obtain ⟨hk,hn,hs⟩:=drop_cons hd
  have e1:IntKind.i64.wrap ((k:Int) + 1) = ((k + 1:Nat):Int):=wrap64 (by omega) (by omega)
  have ih':=ih (k + 1) (s ++ [p]) hs
  have hlook:=mLook_set pin_keyEq pin_keyOk p s
  have hput:=mPut_set pin_keyEq p s
  have hok:=pin_keyOk p
  simp only [pinK] at hlook hput hok
  rw [mach_checkLinks.L4_eq]
  simp only [fLen_sl,bindO_s,fCond_b,fBin_lss,decide_eq_true_eq,Int.ofNat_lt,hk,if_true,idx_sl hn (PN_len p),PN_zero,PN_one,mach_isIn_ok hin,fUn_not,Bool.not_eq_true',hlook,hok,gB_t,fBin_add,e1,insGo]
  by_cases g1:isInB (li oms) (li ops) p = false
  ·simp [g1]
  simp only [g1,if_false,reduceCtorEq]
  by_cases g2:p ∈ s
  ·simp [g2]
  ·simp only [g2,if_false,hput g2,bindO_s,ih',List.append_assoc,List.singleton_append]
omit hll hli in
theorem mach_outs_L5 (x4 x5:FV) (es10:List (FV × FV)):∀ (t:List TPin) (k:Nat) (s:List TPin),(li oo).drop k = t →
  mach_checkLinks.L5 (sl PN oo) (.int .i64 ((li oo).length:Int)) (.int .i64 (k:Int)) (sl MC oms) x4 x5 (sl PT ops) (sl LK ol) (sl PN oi) (sl PN oo) es10 (setM pinK s) =
   (if outsGo (li oms) (li ops) s t ≠ 0 then some (.int .i64 (outsGo (li oms) (li ops) s t)) else mach_checkLinks.L6 (sl PT ops) (.int .i64 ((li ops).length:Int)) (.int .i64 ((0:Nat):Int)) (sl MC oms) x4 x5 (sl PT ops) (sl LK ol) (sl PN oi) (sl PN oo) es10 (setM pinK (s ++ t))):=by
 intro t
 induction t with
 | nil =>
  intro k s hd
  rw [mach_checkLinks.L5_eq]
  simp only [fLen_sl,bindO_s,fCond_b,fBin_lss,decide_eq_true_eq,Int.ofNat_lt,drop_nil hd,if_false,outsGo,ne_eq,not_true_eq_false,List.append_nil]
  rfl
 | cons p t ih =>
  intro k s hd
  obtain ⟨hk,hn,hs⟩:=drop_cons hd
  have e1:IntKind.i64.wrap ((k:Int) + 1) = ((k + 1:Nat):Int):=wrap64 (by omega) (by omega)
  have ih':=ih (k + 1) (s ++ [p]) hs
  have hlook:=mLook_set pin_keyEq pin_keyOk p s
  have hput:=mPut_set pin_keyEq p s
  have hok:=pin_keyOk p
  simp only [pinK] at hlook hput hok
  rw [mach_checkLinks.L5_eq]
  simp only [fLen_sl,bindO_s,fCond_b,fBin_lss,decide_eq_true_eq,Int.ofNat_lt,hk,if_true,idx_sl hn (PN_len p),PN_zero,PN_one,mach_isOut_ok hin,fUn_not,Bool.not_eq_true',hlook,hok,gB_t,fBin_add,e1,outsGo]
  by_cases g1:isOutB (li oms) (li ops) p = false
  ·simp [g1]
  simp only [g1,if_false,reduceCtorEq]
  by_cases g2:p ∈ s
  ·simp [g2]
  ·simp only [g2,if_false,hput g2,bindO_s,ih',List.append_assoc,List.singleton_append]
omit hlo in
theorem ref_whole_L1 (hsm:∀ m ∈ li oms,SmM m) (x3:FV) {a:Nat} (ha:a < (li ops).length) (ha2:a < 1000000000000000):∀ (d b:Nat),(insAt (li oms) (li ops) (a:Int)).length - b = d →
  ref02_whole.L1 (sl MC oms) (.int .i64 (a:Int)) (.int .i64 (b:Int)) x3 (sl PT ops) (sl LK ol) (sl PN oi) (sl PN oo) =
   (if allTo (fun b => decide (((a:Int),(b:Int),()) ∈ fed (li ol) ++ li oi)) (insAt (li oms) (li ops) (a:Int)).length b then ref02_whole.L0 (sl MC oms) (.int .i64 ((a + 1:Nat):Int)) x3 (sl PT ops) (sl LK ol) (sl PN oi) (sl PN oo) else some (.bool false)):=by
 obtain ⟨q,m,k1,k2,k3,k4,k5⟩:=part_get hin (i:=(a:Int)) (by omega) (by omega)
 have hm:=(hsm m k5).ins.1
 rw [← k3] at hm
 have e1:IntKind.i64.wrap ((a:Int) + 1) = ((a + 1:Nat):Int):=wrap64 (by omega) (by omega)
 intro d
 induction d with
 | zero =>
  intro b hb
  have hb':¬ b < (insAt (li oms) (li ops) (a:Int)).length:=by omega
  rw [ref02_whole.L1_eq,allTo_end hb']
  simp only [k1,k2,bindO_s,PT_one,MC_three,fLen_sl,← k3,fBin_lss,fCond_b,decide_eq_true_eq,Int.ofNat_lt,hb',if_false,if_true,fBin_add,e1]
 | succ d ih =>
  intro b hb
  have hb':b < (insAt (li oms) (li ops) (a:Int)).length:=by omega
  have e2:IntKind.i64.wrap ((b:Int) + 1) = ((b + 1:Nat):Int):=wrap64 (by omega) (by omega)
  have ih':=ih (b + 1) (by omega)
  have hlk:=linked_ok (ol:=ol) hll ((a:Int),(b:Int),()) (Nat.le_refl _)
  rw [List.take_length] at hlk
  have hhas:=has_sl (o:=oi) hli ((a:Int),(b:Int),())
  simp only at hlk hhas
  rw [ref02_whole.L1_eq,allTo_step hb']
  simp only [k1,k2,bindO_s,PT_one,MC_three,fLen_sl,← k3,fBin_lss,fCond_b,decide_eq_true_eq,Int.ofNat_lt,hb',if_true,hlk,hhas,fUn_not,Bool.not_eq_true',decide_eq_false_iff_not,fBin_add,e2,ih',List.mem_append,Bool.and_eq_true]
  by_cases g1:((a:Int),(b:Int),()) ∈ fed (li ol)
  ·simp only [g1,show ((a:Int),(b:Int),()) ∈ List.map (fun l => l.2.1) (li ol) from g1,not_true_eq_false,if_false,true_or,true_and]
  ·simp only [g1,show ¬ ((a:Int),(b:Int),()) ∈ List.map (fun l => l.2.1) (li ol) from g1,not_false_eq_true,if_true,false_or]
   by_cases g2:((a:Int),(b:Int),()) ∈ li oi
   ·simp only [g2,not_true_eq_false,if_false,true_and]
   ·simp only [g2,not_false_eq_true,if_true,false_and,if_false]
omit hlo in
theorem ref_whole_ok (hsm:∀ m ∈ li oms,SmM m) (hp:(li ops).length < 1000000000000000) (x3:FV):ref02_whole (sl MC oms) (.agg [x3,sl PT ops,sl LK ol,sl PN oi,sl PN oo]) = some (.bool (wholeB (li oms) (li ops) (fed (li ol) ++ li oi))):=by
 have h0:∀ (d a:Nat),(li ops).length - a = d → ref02_whole.L0 (sl MC oms) (.int .i64 (a:Int)) x3 (sl PT ops) (sl LK ol) (sl PN oi) (sl PN oo) = some (.bool (allTo (fun a => allTo (fun b => decide (((a:Int),(b:Int),()) ∈ fed (li ol) ++ li oi)) (insAt (li oms) (li ops) (a:Int)).length 0) (li ops).length a)):=by
  intro d
  induction d with
  | zero =>
   intro a ha
   have ha':¬ a < (li ops).length:=by omega
   rw [ref02_whole.L0_eq,allTo_end ha']
   simp only [bindO_s,fLen_sl,fBin_lss,fCond_b,decide_eq_true_eq,Int.ofNat_lt,ha',if_false]
  | succ d ih =>
   intro a ha
   have ha':a < (li ops).length:=by omega
   have h1:=ref_whole_L1 hin hll hli (oo:=oo) hsm x3 ha' (by omega) _ 0 rfl
   rw [ih (a + 1) (by omega)] at h1
   rw [ref02_whole.L0_eq,allTo_step ha']
   simp only [bindO_s,fLen_sl,fBin_lss,fCond_b,decide_eq_true_eq,Int.ofNat_lt,ha',if_true]
   refine Eq.trans h1 ?_
   by_cases g:allTo (fun b => decide (((a:Int),(b:Int),()) ∈ fed (li ol) ++ li oi)) (insAt (li oms) (li ops) (a:Int)).length 0 = true
   ·simp only [g,if_true,Bool.true_and]
   ·rw [Bool.not_eq_true] at g
    simp only [g,Bool.false_eq_true,if_false,Bool.false_and]
 rw [ref02_whole.eq]
 exact h0 _ 0 rfl
omit hll hli hlo in
theorem mach_whole_L7 (hsm:∀ m ∈ li oms,SmM m) (x7 x8 x12 x15:FV) {a:Nat} (ha:a < (li ops).length) (ha2:a < 1000000000000000) {q:TPart} {m:TMach} (k2:fIdxC 6 (sl MC oms) (.int .i64 q.2.1) = some (MC m)) (k3:insAt (li oms) (li ops) (a:Int) = li m.2.2.2.1) (k5:m ∈ li oms) (s:List TPin) (es14:List (FV × FV)) (x16:FV):∀ (d b:Nat),(insAt (li oms) (li ops) (a:Int)).length - b = d →
  mach_checkLinks.L7 (.int .i64 (a:Int)) (sl PT ops) (.int .i64 ((li ops).length:Int)) (.int .i64 (a:Int)) (.int .i64 ((insAt (li oms) (li ops) (a:Int)).length:Int)) (.int .i64 (b:Int)) (sl MC oms) x7 x8 (sl PT ops) (sl LK ol) (sl PN oi) x12 (setM pinK s) es14 x15 x16 =
   (if allTo (fun b => decide (((a:Int),(b:Int),()) ∈ s)) (insAt (li oms) (li ops) (a:Int)).length b then mach_checkLinks.L6 (sl PT ops) (.int .i64 ((li ops).length:Int)) (.int .i64 ((a + 1:Nat):Int)) (sl MC oms) x7 x8 (sl PT ops) (sl LK ol) (sl PN oi) x12 (setM pinK s) es14 else some (.int .i64 24)):=by
 have hm:=(hsm m k5).ins.1
 rw [← k3] at hm
 have e1:IntKind.i64.wrap ((a:Int) + 1) = ((a + 1:Nat):Int):=wrap64 (by omega) (by omega)
 intro d
 induction d with
 | zero =>
  intro b hb
  have hb':¬ b < (insAt (li oms) (li ops) (a:Int)).length:=by omega
  rw [mach_checkLinks.L7_eq,allTo_end hb']
  simp only [bindO_s,fBin_lss,fCond_b,decide_eq_true_eq,Int.ofNat_lt,hb',if_false,if_true,fBin_add,e1]
 | succ d ih =>
  intro b hb
  have hb':b < (insAt (li oms) (li ops) (a:Int)).length:=by omega
  have e2:IntKind.i64.wrap ((b:Int) + 1) = ((b + 1:Nat):Int):=wrap64 (by omega) (by omega)
  have ih':=ih (b + 1) (by omega)
  have hlook:=mLook_set pin_keyEq pin_keyOk ((a:Int),(b:Int),()) s
  rw [mach_checkLinks.L7_eq,allTo_step hb']
  rw [show FV.agg [.int .i64 (a:Int),.int .i64 (b:Int)] = pinK ((a:Int),(b:Int),()) from rfl]
  simp only [bindO_s,fBin_lss,fCond_b,decide_eq_true_eq,Int.ofNat_lt,hb',if_true,hlook,fUn_not,Bool.not_eq_true',decide_eq_false_iff_not,fBin_add,e2,ih',Bool.and_eq_true]
  by_cases g2:((a:Int),(b:Int),()) ∈ s
  ·simp only [g2,not_true_eq_false,if_false,true_and]
  ·simp only [g2,not_false_eq_true,if_true,false_and,if_false]
omit hll hli hlo in
theorem mach_whole_L6 (hsm:∀ m ∈ li oms,SmM m) (hp:(li ops).length < 1000000000000000) (x4 x5 x9:FV) (s:List TPin) (es11:List (FV × FV)):∀ (d a:Nat),(li ops).length - a = d →
  mach_checkLinks.L6 (sl PT ops) (.int .i64 ((li ops).length:Int)) (.int .i64 (a:Int)) (sl MC oms) x4 x5 (sl PT ops) (sl LK ol) (sl PN oi) x9 (setM pinK s) es11 = some (.int .i64 (if allTo (fun a => allTo (fun b => decide (((a:Int),(b:Int),()) ∈ s)) (insAt (li oms) (li ops) (a:Int)).length 0) (li ops).length a then 0 else 24)):=by
 intro d
 induction d with
 | zero =>
  intro a ha
  have ha':¬ a < (li ops).length:=by omega
  rw [mach_checkLinks.L6_eq,allTo_end ha']
  simp only [bindO_s,fBin_lss,fCond_b,decide_eq_true_eq,Int.ofNat_lt,ha',if_false,if_true]
 | succ d ih =>
  intro a ha
  have ha':a < (li ops).length:=by omega
  obtain ⟨q,m,k1,k2,k3,k4,k5⟩:=part_get hin (i:=(a:Int)) (by omega) (by omega)
  have h1:=mach_whole_L7 (ol:=ol) (oi:=oi) hin hsm x4 x5 x9 (.str q.1) ha' (by omega) k2 k3 k5 s es11 (.int .i64 q.2.1) _ 0 rfl
  rw [ih (a + 1) (by omega)] at h1
  rw [mach_checkLinks.L6_eq,allTo_step ha']
  simp only [bindO_s,fLen_sl,fBin_lss,fCond_b,decide_eq_true_eq,Int.ofNat_lt,ha',if_true,k1,PT_zero,PT_one,k2,MC_three,← k3]
  refine Eq.trans h1 ?_
  by_cases g:allTo (fun b => decide (((a:Int),(b:Int),()) ∈ s)) (insAt (li oms) (li ops) (a:Int)).length 0 = true
  ·simp only [g,if_true,Bool.true_and]
  ·simp [g]
end
end Go.Proofs.Ytelcbakleaaneaa
end
section
namespace Go.Proofs.Ytelcbakleaaneaa
open Go Go.Proofs.Ytelcbakleaaneaa.VM
theorem pig:∀ (n:Nat) (l:List Nat),l.Nodup → (∀ x ∈ l,x < n) → l.length ≤ n
 | 0,l,_,h => by
  cases l with
  | nil => simp
  | cons x l => exact absurd (h x (by simp)) (by omega)
 | n + 1,l,hn,h => by
  by_cases g:n ∈ l
  ·have h1:=pig n (l.erase n) (hn.erase n) (fun x hx => by
    have:=(hn.mem_erase_iff).1 hx
    have:=h x this.2
    omega)
   rw [List.length_erase_of_mem g] at h1
   omega
  ·have:=pig n l hn (fun x hx => by
    have h2:=h x hx
    have h3:x ≠ n:=fun e => g (e ▸ hx)
    omega)
   omega
theorem pig_all {n:Nat} {l:List Nat} (hn:l.Nodup) (h:∀ x ∈ l,x < n) (hl:l.length = n):∀ i < n,i ∈ l:=by
 intro i hi
 by_cases g:i ∈ l
 ·exact g
 ·have:=pig n (i :: l) (List.nodup_cons.2 ⟨g,hn⟩) (fun x hx => by
   rcases List.mem_cons.1 hx with rfl | hx
   ·exact hi
   ·exact h x hx)
  simp at this
  omega
def Ranked (E:Nat → Nat → Prop):Prop:=∃ r:Nat → Nat,∀ u v,E u v → r u < r v
theorem stuck {E:Nat → Nat → Prop} {n:Nat} {o:List Nat} (h:∀ i,i < n → i ∉ o → ∃ u,u < n ∧ E u i ∧ u ∉ o) {i:Nat} (hi:i < n) (ho:i ∉ o):¬ Ranked E:=by
 rintro ⟨r,hr⟩
 have key:∀ k i,r i < k → i < n → i ∉ o → False:=by
  intro k
  induction k with
  | zero => intro i hk;omega
  | succ k ih =>
   intro i hk hi ho
   obtain ⟨u,h1,h2,h3⟩:=h i hi ho
   have:=hr u i h2
   exact ih u (by omega) h1 h3
 exact key (r i + 1) i (by omega) hi ho
def Topo (E:Nat → Nat → Prop) (q:List Nat):Prop:=∀ u v,E u v → v ∈ q → u ∈ q ∧ q.idxOf u < q.idxOf v
theorem topo_push {E:Nat → Nat → Prop} {q:List Nat} (h:Topo E q) {v:Nat} (hv:v ∉ q) (hp:∀ u,E u v → u ∈ q):Topo E (q ++ [v]):=by
 intro a b e hb
 by_cases g:b ∈ q
 ·obtain ⟨h1,h2⟩:=h a b e g
  refine ⟨by simp [h1],?_⟩
  rw [List.idxOf_append,List.idxOf_append,if_pos h1,if_pos g]
  exact h2
 ·have hbv:b = v:=by
   rcases List.mem_append.1 hb with h1 | h1
   ·exact absurd h1 g
   ·simpa using h1
  subst hbv
  have h1:=hp a e
  refine ⟨by simp [h1],?_⟩
  rw [List.idxOf_append,List.idxOf_append,if_pos h1,if_neg g]
  have:=List.idxOf_lt_length_of_mem h1
  omega
theorem topo_ranked {E:Nat → Nat → Prop} {q:List Nat} (h:Topo E q) (hall:∀ u v,E u v → v ∈ q):Ranked E:=⟨fun x => q.idxOf x,fun u v e => (h u v e (hall u v e)).2⟩
structure Ord (E:Nat → Nat → Prop) (n:Nat) (o:List Nat):Prop where
 nd:o.Nodup
 lt:∀ x ∈ o,x < n
 len:o.length = n
 topo:Topo E o
def EE (ls:List TLink) (u v:Nat):Prop:=∃ l ∈ ls,l.2.2.1 = 0 ∧ l.1.1 = (u:Int) ∧ l.2.1.1 = (v:Int)
def EdgesIn (n:Nat) (ls:List TLink):Prop:=∀ l ∈ ls,0 ≤ l.1.1 ∧ l.1.1 < (n:Int) ∧ 0 ≤ l.2.1.1 ∧ l.2.1.1 < (n:Int)
theorem linksGo_in {ms:List TMach} {ps:List TPart}:∀ (ls:List TLink) (s:List TPin),linksGo ms ps s ls = 0 → EdgesIn ps.length ls
 | [],_,_ => fun l hl => by cases hl
 | l :: ls,s,h => by
  simp only [linksGo] at h
  by_cases g:linkC ms ps s l ≠ 0
  ·rw [if_pos g] at h;exact absurd h g
  rw [if_neg g] at h
  intro x hx
  rcases List.mem_cons.1 hx with rfl | hx
  ·have g':=Decidable.not_not.1 g
   unfold linkC at g'
   by_cases g1:isOutB ms ps x.1 = false
   ·rw [if_pos g1] at g';omega
   rw [if_neg g1] at g'
   by_cases g2:isInB ms ps x.2.1 = false
   ·rw [if_pos g2] at g';omega
   have h1:=isOutB_iff.1 (show isOutB ms ps x.1 = true by simpa using g1)
   have h2:=isInB_iff.1 (show isInB ms ps x.2.1 = true by simpa using g2)
   exact ⟨h1.1,h1.2.1,h2.1,h2.2.1⟩
  ·exact linksGo_in ls _ h x hx
def vec (n:Nat) (g:Nat → List FV):List (List FV):=(List.range n).map g
@[simp] theorem vec_len (n:Nat) (g:Nat → List FV):(vec n g).length = n:=by simp [vec]
theorem vec_get {n:Nat} {g:Nat → List FV} {i:Nat} (h:i < n):(vec n g)[i]? = some (g i):=by simp [vec,h]
theorem vec_set {n:Nat} {g g':Nat → List FV} {i:Nat} (h1:∀ j,j ≠ i → g' j = g j):(vec n g).set i (g' i) = vec n g':=by
 apply List.ext_getElem
 ·simp
 ·intro j hj1 hj2
  simp only [vec,List.getElem_set,List.getElem_map,List.getElem_range]
  by_cases e:i = j
  ·subst e;simp
  ·rw [if_neg e,h1 j (fun e' => e e'.symm)]
theorem vec_rep (n:Nat) (y:List FV):List.replicate n y = vec n fun _ => y:=by
 apply List.ext_getElem
 ·simp
 ·intro j hj1 hj2
  simp [vec]
def doneV (n:Nat) (o:List Nat):List (List FV):=vec n fun i => [.bool (decide (i ∈ o))]
def numR (x:Nat):List FV:=I (x:Int)
def freeL (o:List Nat) (i:Nat) (l:TLink):Bool:=!(decide (l.2.2.1 = 0) && decide (l.2.1.1 = (i:Int))) || decide (l.1.1.toNat ∈ o)
def readyB (ls:List TLink) (o:List Nat) (i:Nat):Bool:=!decide (i ∈ o) && ls.all (freeL o i)
section
variable {ops:Option (List TPart)} {ol:Option (List TLink)} {n:Nat}
variable (hn:(li ops).length = n) (h32:n ≤ 32) (hE:EdgesIn n (li ol)) (hll:(li ol).length < 1000000000000000)
include hn h32 hE hll
theorem ref_order_L3 (x4 x7 x8:FV) (r10:List (List FV)) {i:Nat} (hi:i < n) (o:List Nat):∀ (t:List TLink) (k:Nat) (b:Bool),(li ol).drop k = t →
  ref02_Order.L3 (.int .i64 (-1)) (.int .i64 (i:Int)) (.bool b) (.int .i64 (k:Int)) x4 (sl PT ops) (sl LK ol) x7 x8 (doneV n o) r10 =
   (if b && t.all (freeL o i) then ref02_Order.L1 (.int .i64 (i:Int)) (.int .i64 ((i + 1:Nat):Int)) x4 (sl PT ops) (sl LK ol) x7 x8 (doneV n o) r10 else ref02_Order.L1 (.int .i64 (-1)) (.int .i64 ((i + 1:Nat):Int)) x4 (sl PT ops) (sl LK ol) x7 x8 (doneV n o) r10):=by
 intro t
 have ei:IntKind.i64.wrap ((i:Int) + 1) = ((i + 1:Nat):Int):=wrap64 (by omega) (by omega)
 induction t with
 | nil =>
  intro k b hd
  rw [ref02_Order.L3_eq]
  simp only [fLen_sl,bindO_s,fCond_b,fBin_lss,decide_eq_true_eq,Int.ofNat_lt,drop_nil hd,if_false,fBin_add,ei,List.all_nil,Bool.and_true]
 | cons l t ih =>
  intro k b hd
  obtain ⟨hk,hn',hs⟩:=drop_cons hd
  have e1:IntKind.i64.wrap ((k:Int) + 1) = ((k + 1:Nat):Int):=wrap64 (by omega) (by omega)
  have ih':=fun b => ih (k + 1) b hs
  obtain ⟨f0,f1,t0,t1⟩:=hE l (List.mem_of_getElem? hn')
  have hf:l.1.1.toNat < n:=by omega
  have hrI:rIdx (doneV n o) (.int .i64 l.1.1) = some l.1.1.toNat:=by
   have:=rIdx_at (r:=doneV n o) (k:=l.1.1.toNat) (by simpa [doneV] using hf)
   rwa [show ((l.1.1.toNat:Nat):Int) = l.1.1 by omega] at this
  have hrG:rGet (doneV n o) l.1.1.toNat 0 = some (.bool (decide (l.1.1.toNat ∈ o))):=by
   rw [doneV,rGet_at (vec_get hf)];rfl
  rw [ref02_Order.L3_eq]
  simp only [fLen_sl,bindO_s,fCond_b,fBin_lss,decide_eq_true_eq,Int.ofNat_lt,hk,if_true,idx_sl hn' (LK_len l),LK_zero,LK_one,LK_two,LK_three,LK_four,LK_five,fBin_eql,hrI,hrG,fUn_not,fBin_add,e1,ih',List.all_cons,Bool.not_false,Bool.not_not]
  cases b with
  | false => simp only [Bool.false_eq_true,if_false,Bool.false_and]
  | true =>
   simp only [if_true,Bool.true_and]
   by_cases g1:l.2.2.1 = 0
   ·by_cases g2:l.2.1.1 = (i:Int)
    ·have hfr:freeL o i l = decide (l.1.1.toNat ∈ o):=by simp [freeL,g1,g2]
     simp only [g1,g2,if_true,hfr]
    ·have hfr:freeL o i l = true:=by simp [freeL,g2]
     simp only [g1,g2,if_true,if_false,hfr,Bool.true_and]
   ·have hfr:freeL o i l = true:=by simp [freeL,g1]
    simp only [g1,if_false,hfr,Bool.true_and]
theorem ref_order_exit (x2 x5 x6:FV) {p i:Nat} (hp:p < n) (o:List Nat) (ho:o.length ≤ 32) :
  ref02_Order.L1 (.int .i64 (p:Int)) (.int .i64 (i:Int)) x2 (sl PT ops) (sl LK ol) x5 x6 (doneV n o) (o.map numR) = ref02_Order.L0 x2 (sl PT ops) (sl LK ol) x5 x6 (doneV n (o ++ [p])) ((o ++ [p]).map numR):=by
 have hrI:rIdx (doneV n o) (.int .i64 (p:Int)) = some p:=rIdx_at (by simpa [doneV] using hp)
 have hset:rSet (doneV n o) p 0 [.bool true] = some (doneV n (o ++ [p])):=by
  rw [doneV,rSet_one (vec_get hp)]
  have:=vec_set (n:=n) (g:=fun i => [FV.bool (decide (i ∈ o))]) (g':=fun i => [FV.bool (decide (i ∈ o ++ [p]))]) (i:=p) (fun j hj => by simp [hj])
  simp only [List.mem_append,List.mem_singleton,or_true,decide_true] at this
  rw [this]
  simp [doneV]
 have hroom:(o.length + 1) * 8 ≤ room:=by unfold room;omega
 rw [ref02_Order.L1_eq]
 simp only [fLen_sl,bindO_s,fCond_b,fBin_lss,decide_eq_true_eq,show ¬ ((p:Int) < 0) by omega,if_false,hrI,hset,List.length_map,hroom,decide_true,gB_t]
 rw [show o.map numR ++ [[FV.int .i64 (p:Int)]] = (o ++ [p]).map numR by simp [numR,I]]
 split <;> rfl
theorem ref_order_L1 (x2 x5 x6:FV) (o:List Nat) (ho:o.length ≤ 32):∀ (d i:Nat),n - i = d → i ≤ n →
  (∃ p,p < n ∧ readyB (li ol) o p = true ∧ ref02_Order.L1 (.int .i64 (-1)) (.int .i64 (i:Int)) x2 (sl PT ops) (sl LK ol) x5 x6 (doneV n o) (o.map numR) = ref02_Order.L0 x2 (sl PT ops) (sl LK ol) x5 x6 (doneV n (o ++ [p])) ((o ++ [p]).map numR)) ∨
  ((∀ p,i ≤ p → p < n → readyB (li ol) o p = false) ∧ ref02_Order.L1 (.int .i64 (-1)) (.int .i64 (i:Int)) x2 (sl PT ops) (sl LK ol) x5 x6 (doneV n o) (o.map numR) = some (.tup [.nilS,.bool false])):=by
 intro d
 induction d with
 | zero =>
  intro i hi hin
  refine Or.inr ⟨fun p h1 h2 => by omega,?_⟩
  rw [ref02_Order.L1_eq]
  simp only [fLen_sl,hn,bindO_s,fCond_b,fBin_lss,decide_eq_true_eq,Int.ofNat_lt,show ¬ i < n by omega,if_false,show ((-1:Int) < 0) from by decide,if_true]
 | succ d ih =>
  intro i hi hin
  have hi':i < n:=by omega
  have hL:ref02_Order.L1 (.int .i64 (-1)) (.int .i64 (i:Int)) x2 (sl PT ops) (sl LK ol) x5 x6 (doneV n o) (o.map numR) =
    (if readyB (li ol) o i then ref02_Order.L1 (.int .i64 (i:Int)) (.int .i64 ((i + 1:Nat):Int)) x2 (sl PT ops) (sl LK ol) x5 x6 (doneV n o) (o.map numR) else ref02_Order.L1 (.int .i64 (-1)) (.int .i64 ((i + 1:Nat):Int)) x2 (sl PT ops) (sl LK ol) x5 x6 (doneV n o) (o.map numR)):=by
   have hrI:rIdx (doneV n o) (.int .i64 (i:Int)) = some i:=rIdx_at (by simpa [doneV] using hi')
   have hrG:rGet (doneV n o) i 0 = some (.bool (decide (i ∈ o))):=by rw [doneV,rGet_at (vec_get hi')];rfl
   have h3:=ref_order_L3 hn h32 hE hll x2 x5 x6 (o.map numR) hi' o _ 0 (!decide (i ∈ o)) rfl
   rw [ref02_Order.L1_eq]
   simp only [fLen_sl,hn,bindO_s,fCond_b,fBin_lss,decide_eq_true_eq,Int.ofNat_lt,hi',if_true,show ((-1:Int) < 0) from by decide]
   rw [ref02_Order.L2_eq]
   simp only [hrI,hrG,bindO_s,fUn_not]
   exact h3
  rw [hL]
  by_cases g:readyB (li ol) o i = true
  ·refine Or.inl ⟨i,hi',g,?_⟩
   rw [if_pos g]
   exact ref_order_exit hn h32 hE hll x2 x5 x6 hi' o ho
  ·rw [if_neg g]
   rcases ih (i + 1) (by omega) (by omega) with ⟨p,h1,h2,h3⟩ | ⟨h1,h2⟩
   ·exact Or.inl ⟨p,h1,h2,h3⟩
   ·refine Or.inr ⟨fun p g1 g2 => ?_,h2⟩
    by_cases e:p = i
    ·subst e;simpa using g
    ·exact h1 p (by omega) g2
theorem ready_preds {o:List Nat} {p:Nat} (h:readyB (li ol) o p = true):p ∉ o ∧ ∀ u,EE (li ol) u p → u ∈ o:=by
 simp only [readyB,Bool.and_eq_true,Bool.not_eq_true',decide_eq_false_iff_not,List.all_eq_true] at h
 refine ⟨h.1,?_⟩
 rintro u ⟨l,hl,e1,e2,e3⟩
 have:=h.2 l hl
 simpa [freeL,e1,e2,e3] using this
theorem not_ready {o:List Nat} {p:Nat} (h:readyB (li ol) o p = false) (hp:p ∉ o):∃ u,u < n ∧ EE (li ol) u p ∧ u ∉ o:=by
 simp only [readyB,hp,decide_false,Bool.not_false,Bool.true_and,List.all_eq_false] at h
 obtain ⟨l,hl,hf⟩:=h
 simp only [freeL,Bool.or_eq_true,Bool.not_eq_true',Bool.and_eq_false_iff,decide_eq_false_iff_not,decide_eq_true_eq,not_or,Decidable.not_not] at hf
 obtain ⟨f0,f1,t0,t1⟩:=hE l hl
 refine ⟨l.1.1.toNat,by omega,⟨l,hl,?_,by omega,?_⟩,hf.2⟩
 ·have:=hf.1;omega
 ·have:=hf.1;omega
theorem ref_order_ok (x0 x3 x4:FV):∃ x b,ref02_Order (.agg [x0,sl PT ops,sl LK ol,x3,x4]) = some (.tup [x,.bool b]) ∧ (b = true ↔ Ranked (EE (li ol))) ∧ (b = true → ∃ o,x = .arr (o.map numR) ∧ Ord (EE (li ol)) n o):=by
 have key:∀ (d:Nat) (o:List Nat),n - o.length = d → o.Nodup → (∀ x ∈ o,x < n) → Topo (EE (li ol)) o → ∃ x b,ref02_Order.L0 x0 (sl PT ops) (sl LK ol) x3 x4 (doneV n o) (o.map numR) = some (.tup [x,.bool b]) ∧ (b = true ↔ Ranked (EE (li ol))) ∧ (b = true → ∃ o,x = .arr (o.map numR) ∧ Ord (EE (li ol)) n o):=by
  intro d
  induction d with
  | zero =>
   intro o hd ho hlt ht
   have hle:=pig n o ho hlt
   have hall:=pig_all ho hlt (by omega)
   refine ⟨.arr (o.map numR),true,?_,?_,fun _ => ⟨o,rfl,ho,hlt,by omega,ht⟩⟩
   ·rw [ref02_Order.L0_eq]
    simp only [fLen_sl,hn,bindO_s,fCond_b,fBin_lss,decide_eq_true_eq,Int.ofNat_lt,List.length_map,show ¬ o.length < n by omega,if_false]
   ·refine ⟨fun _ => topo_ranked ht ?_,fun _ => rfl⟩
    rintro u v ⟨l,hl,e1,e2,e3⟩
    obtain ⟨f0,f1,t0,t1⟩:=hE l hl
    exact hall v (by omega)
  | succ d ih =>
   intro o hd ho hlt ht
   have hle:o.length < n:=by omega
   rw [ref02_Order.L0_eq]
   simp only [fLen_sl,hn,bindO_s,fCond_b,fBin_lss,decide_eq_true_eq,Int.ofNat_lt,List.length_map,hle,if_true]
   rcases ref_order_L1 hn h32 hE hll x0 x3 x4 o (by omega) _ 0 rfl (by omega) with ⟨p,h1,h2,h3⟩ | ⟨h1,h2⟩
   ·obtain ⟨k1,k2⟩:=ready_preds hn h32 hE hll h2
    rw [show (FV.int IntKind.i64 0) = .int .i64 ((0:Nat):Int) from rfl,h3]
    refine ih (o ++ [p]) (by simp;omega) ?_ ?_ (topo_push ht k1 k2)
    ·rw [List.nodup_append]
     exact ⟨ho,by simp,fun a ha b hb => by simp at hb;subst hb;exact fun e => k1 (e ▸ ha)⟩
    ·intro x hx
     rcases List.mem_append.1 hx with hx | hx
     ·exact hlt x hx
     ·simp at hx;omega
   ·refine ⟨_,false,h2,?_,fun h => by cases h⟩
    simp only [Bool.false_eq_true,false_iff]
    obtain ⟨i,hi,hio⟩:∃ i,i < n ∧ i ∉ o:=by
     by_cases g:∃ i,i < n ∧ i ∉ o
     ·exact g
     ·exfalso
      have hall:∀ i ∈ List.range n,i ∈ o:=fun i hi => by
       by_cases g2:i ∈ o
       ·exact g2
       ·exact absurd ⟨i,by simpa using hi,g2⟩ g
      have:=(List.nodup_range (n:=n)).length_le_of_subset hall
      simp at this
      omega
    exact stuck (fun j hj hjo => not_ready hn h32 hE hll (h1 j (by omega) hj) hjo) hi hio
 rw [ref02_Order.eq]
 simp only [fIsAgg_agg,List.length_cons,List.length_nil,fCell_zero,fCell_succ,fLen_sl,hn,bindO_s,asNat_nat]
 rw [show (0 + 1 + 1 + 1 + 1 + 1 == 5) = true from rfl,gB_t]
 have hroom:(decide (n ≤ n) && decide (n * 1 ≤ room) && decide (1 ≥ 1)) = true:=by
  have:n * 1 ≤ room:=by unfold room;omega
  simp;omega
 rw [hroom,gB_t,vec_rep]
 have:=key n [] (by simp) (by simp) (by simp) (fun u v e hv => by cases hv)
 simpa [doneV] using this
end
end Go.Proofs.Ytelcbakleaaneaa
end
section
namespace Go.Proofs.Ytelcbakleaaneaa
open Go Go.Proofs.Ytelcbakleaaneaa.VM
def edgeTo (o:List Nat) (v:Nat) (l:TLink):Bool:=decide (l.2.2.1 = 0) && (decide (l.2.1.1 = (v:Int)) && !decide (l.1.1.toNat ∈ o))
def cnt (o:List Nat) (ls:List TLink) (v:Nat):Nat:=ls.countP (edgeTo o v)
def one (b:Bool):Nat:=if b then 1 else 0
theorem cnt_cons (o:List Nat) (l:TLink) (ls:List TLink) (v:Nat):cnt o (l :: ls) v = cnt o ls v + one (edgeTo o v l):=by
 simp only [cnt,List.countP_cons,one]
theorem cnt_snoc (o:List Nat) (l:TLink) (ls:List TLink) (v:Nat):cnt o (ls ++ [l]) v = cnt o ls v + one (edgeTo o v l):=by
 simp only [cnt,List.countP_append,List.countP_cons,List.countP_nil,Nat.zero_add,one]
theorem cnt_le (o:List Nat) (ls:List TLink) (v:Nat):cnt o ls v ≤ ls.length:=List.countP_le_length
theorem cnt_zero {o:List Nat} {ls:List TLink} {v:Nat} (h:cnt o ls v = 0) {u:Nat} {l:TLink} (hl:l ∈ ls) (e1:l.2.2.1 = 0) (e2:l.1.1 = (u:Int)) (e3:l.2.1.1 = (v:Int)):u ∈ o:=by
 have:=List.countP_eq_zero.1 h l hl
 simpa [edgeTo,e1,e2,e3] using this
theorem cnt_ne {o:List Nat} {ls:List TLink} {v:Nat} (h:cnt o ls v ≠ 0):∃ l ∈ ls,l.2.2.1 = 0 ∧ l.2.1.1 = (v:Int) ∧ l.1.1.toNat ∉ o:=by
 have:=List.countP_pos_iff.1 (show 0 < cnt o ls v by omega)
 obtain ⟨l,hl,h⟩:=this
 simp only [edgeTo,Bool.and_eq_true,decide_eq_true_eq,Bool.not_eq_true',decide_eq_false_iff_not] at h
 exact ⟨l,hl,h.1,h.2.1,h.2.2⟩
def cV (n:Nat) (f:Nat → Nat):List (List FV):=vec n fun v => I (f v:Int)
theorem cV_set {n:Nat} {f g:Nat → Nat} {i:Nat} (h:∀ j,j ≠ i → g j = f j):(cV n f).set i (I (g i:Int)) = cV n g:=vec_set (g':=fun v => I (g v:Int)) fun j hj => by simp only [h j hj]
theorem cV_idx {n:Nat} {f:Nat → Nat} {x:Int} (h0:0 ≤ x) (h1:x < (n:Int)):rIdx (cV n f) (.int .i64 x) = some x.toNat:=by
 have:=rIdx_at (r:=cV n f) (k:=x.toNat) (by simp only [cV,vec_len];omega)
 rwa [show ((x.toNat:Nat):Int) = x by omega] at this
theorem cV_get {n:Nat} {f:Nat → Nat} {i:Nat} (h:i < n):(cV n f)[i]? = some [.int .i64 (f i:Int)]:=vec_get h
structure Que (ls:List TLink) (n:Nat) (f:Nat → Nat) (q:List Nat):Prop where
 nd:q.Nodup
 lt:∀ x ∈ q,x < n
 topo:Topo (EE ls) q
 ready:∀ v,v < n → (v ∈ q ↔ f v = 0)
section
variable {ops:Option (List TPart)} {ol:Option (List TLink)} {n:Nat}
variable (hn:(li ops).length = n) (h32:n ≤ 32) (hE:EdgesIn n (li ol)) (hll:(li ol).length < 1000000000000000)
include hn h32 hE hll
theorem order_L0 (x3 x6 x7:FV):∀ (t:List TLink) (k:Nat),(li ol).drop k = t →
  mach_order.L0 (sl LK ol) (.int .i64 ((li ol).length:Int)) (.int .i64 (k:Int)) x3 (sl PT ops) (sl LK ol) x6 x7 (cV n (cnt [] ((li ol).take k))) =
   mach_order.L1 (.int .i64 (n:Int)) (.int .i64 0) x3 (sl PT ops) (sl LK ol) x6 x7 (cV n (cnt [] (li ol))) (.int .i64 0) []:=by
 intro t
 induction t with
 | nil =>
  intro k hd
  have hk:=drop_nil hd
  rw [mach_order.L0_eq,List.take_of_length_le (by omega)]
  simp only [bindO_s,fCond_b,fBin_lss,decide_eq_true_eq,Int.ofNat_lt,hk,if_false,cV,vec_len]
 | cons l t ih =>
  intro k hd
  obtain ⟨hk,hn',hs⟩:=drop_cons hd
  have e1:IntKind.i64.wrap ((k:Int) + 1) = ((k + 1:Nat):Int):=wrap64 (by omega) (by omega)
  have ih':=ih (k + 1) hs
  have htk:(li ol).take (k + 1) = (li ol).take k ++ [l]:=by rw [List.take_add_one,hn'];rfl
  obtain ⟨f0,f1,t0,t1⟩:=hE l (List.mem_of_getElem? hn')
  have hw:l.2.1.1.toNat < n:=by omega
  have hle:=cnt_le [] ((li ol).take k) l.2.1.1.toNat
  have hlen:((li ol).take k).length ≤ (li ol).length:=by simp;omega
  have e2:IntKind.i64.wrap (((cnt [] ((li ol).take k) l.2.1.1.toNat:Nat):Int) + 1) = ((cnt [] ((li ol).take k) l.2.1.1.toNat + 1:Nat):Int):=wrap64 (by omega) (by omega)
  rw [mach_order.L0_eq]
  simp only [bindO_s,fCond_b,fBin_lss,decide_eq_true_eq,Int.ofNat_lt,hk,if_true,idx_sl hn' (LK_len l),LK_zero,LK_one,LK_two,LK_three,LK_four,LK_five,fBin_eql,cV_idx t0 t1,rGet_at (cV_get hw),List.getElem?_cons_zero,fBin_add,e1,e2,rSet_one (cV_get hw)]
  by_cases g:l.2.2.1 = 0
  ·simp only [g,if_true]
   have hset:=cV_set (n:=n) (f:=cnt [] ((li ol).take k)) (g:=cnt [] ((li ol).take (k + 1))) (i:=l.2.1.1.toNat) (fun j hj => by
    rw [htk,cnt_snoc]
    have:edgeTo [] j l = false:=by
     have:¬ l.2.1.1 = (j:Int):=by omega
     simp [edgeTo,this]
    rw [this];rfl)
   have hv:cnt [] ((li ol).take (k + 1)) l.2.1.1.toNat = cnt [] ((li ol).take k) l.2.1.1.toNat + 1:=by
    rw [htk,cnt_snoc]
    have:edgeTo [] l.2.1.1.toNat l = true:=by
     have:l.2.1.1 = (l.2.1.1.toNat:Int):=by omega
     simp [edgeTo,g,← this]
    rw [this];rfl
   rw [hv] at hset
   simp only [I] at hset
   rw [hset]
   exact ih'
  ·simp only [g,if_false]
   have:cnt [] ((li ol).take (k + 1)) = cnt [] ((li ol).take k):=by
    funext v
    rw [htk,cnt_snoc]
    have:edgeTo [] v l = false:=by simp [edgeTo,g]
    rw [this];rfl
   rw [this] at ih'
   exact ih'
theorem order_L1 (x2 x5 x6:FV) (f:Nat → Nat):∀ (d v:Nat) (q:List Nat),n - v = d → v ≤ n → q.length ≤ v →
  mach_order.L1 (.int .i64 (n:Int)) (.int .i64 (v:Int)) x2 (sl PT ops) (sl LK ol) x5 x6 (cV n f) (.int .i64 0) (q.map numR) =
   mach_order.L2 x2 (sl PT ops) (sl LK ol) x5 x6 (cV n f) (.int .i64 0) [] ((q ++ (List.range' v d).filter fun v => decide (f v = 0)).map numR):=by
 intro d
 induction d with
 | zero =>
  intro v q hd hv hq
  rw [mach_order.L1_eq]
  simp only [bindO_s,fCond_b,fBin_lss,decide_eq_true_eq,Int.ofNat_lt,show ¬ v < n by omega,if_false,List.range'_zero,List.filter_nil,List.append_nil]
 | succ d ih =>
  intro v q hd hv hq
  have hv':v < n:=by omega
  have e1:IntKind.i64.wrap ((v:Int) + 1) = ((v + 1:Nat):Int):=wrap64 (by omega) (by omega)
  have hroom:(q.length + 1) * 8 ≤ room:=by unfold room;omega
  have hix:rIdx (cV n f) (.int .i64 (v:Int)) = some v:=by
   have:=cV_idx (n:=n) (f:=f) (x:=(v:Int)) (by omega) (by omega)
   simpa using this
  rw [mach_order.L1_eq]
  simp only [bindO_s,fCond_b,fBin_lss,decide_eq_true_eq,Int.ofNat_lt,hv',if_true,hix,rGet_at (cV_get hv'),List.getElem?_cons_zero,fBin_eql,List.length_map,hroom,decide_true,gB_t,fBin_add,e1]
  rw [List.range'_succ,List.filter_cons]
  by_cases g:f v = 0
  ·rw [if_pos (by omega),if_pos (by simp [g])]
   rw [show q.map numR ++ [[FV.int .i64 (v:Int)]] = (q ++ [v]).map numR by simp [numR,I],ih (v + 1) (q ++ [v]) (by omega) (by omega) (by simp;omega)]
   simp only [List.append_assoc,List.singleton_append]
  ·rw [if_neg (by omega),if_neg (by simp [g])]
   exact ih (v + 1) q (by omega) (by omega) (by omega)
theorem order_inner (x4 x7 x8:FV) {p:Nat} {o:List Nat} (hp:p ∉ o) (x10:FV) (r12:List (List FV)):∀ (t:List TLink) (j:Nat) (q:List Nat),(li ol).drop j = t → (∃ r,q = (o ++ [p]) ++ r) →
  Que (li ol) n (fun v => cnt (o ++ [p]) ((li ol).take j) v + cnt o t v) q →
  ∃ q',(∃ r,q' = (o ++ [p]) ++ r) ∧ Que (li ol) n (cnt (o ++ [p]) (li ol)) q' ∧
   mach_order.L3 (.int .i64 (p:Int)) (sl LK ol) (.int .i64 ((li ol).length:Int)) (.int .i64 (j:Int)) x4 (sl PT ops) (sl LK ol) x7 x8 (cV n fun v => cnt (o ++ [p]) ((li ol).take j) v + cnt o t v) x10 (q.map numR) r12 =
    mach_order.L2 x4 (sl PT ops) (sl LK ol) x7 x8 (cV n (cnt (o ++ [p]) (li ol))) x10 r12 (q'.map numR):=by
 intro t
 induction t with
 | nil =>
  intro j q hd hpre hQ
  have hk:=drop_nil hd
  have hf:(fun v => cnt (o ++ [p]) ((li ol).take j) v + cnt o [] v) = cnt (o ++ [p]) (li ol):=by
   funext v
   rw [List.take_of_length_le (by omega)]
   rfl
  rw [hf] at hQ ⊢
  refine ⟨q,hpre,hQ,?_⟩
  rw [mach_order.L3_eq]
  simp only [bindO_s,fCond_b,fBin_lss,decide_eq_true_eq,Int.ofNat_lt,hk,if_false]
 | cons l t ih =>
  intro j q hd hpre hQ
  obtain ⟨hk,hn',hs⟩:=drop_cons hd
  have e1:IntKind.i64.wrap ((j:Int) + 1) = ((j + 1:Nat):Int):=wrap64 (by omega) (by omega)
  have htk:(li ol).take (j + 1) = (li ol).take j ++ [l]:=by rw [List.take_add_one,hn'];rfl
  obtain ⟨f0,f1,t0,t1⟩:=hE l (List.mem_of_getElem? hn')
  have hw:l.2.1.1.toNat < n:=by omega
  have ht_len:t.length ≤ (li ol).length:=by
   have:=congrArg List.length hs
   simp at this;omega
  have hA:∀ v,cnt (o ++ [p]) ((li ol).take j) v + cnt o (l :: t) v = (cnt (o ++ [p]) ((li ol).take j) v + cnt o t v) + one (edgeTo o v l):=fun v => by rw [cnt_cons];omega
  have hB:∀ v,cnt (o ++ [p]) ((li ol).take (j + 1)) v + cnt o t v = (cnt (o ++ [p]) ((li ol).take j) v + cnt o t v) + one (edgeTo (o ++ [p]) v l):=fun v => by rw [htk,cnt_snoc];omega
  rw [mach_order.L3_eq]
  simp only [bindO_s,fCond_b,fBin_lss,decide_eq_true_eq,Int.ofNat_lt,hk,if_true,idx_sl hn' (LK_len l),LK_zero,LK_one,LK_two,LK_three,LK_four,LK_five,fBin_neq,fBin_add,e1]
  by_cases g1:l.2.2.1 ≠ 0
  ·have hf:(fun v => cnt (o ++ [p]) ((li ol).take j) v + cnt o (l :: t) v) = fun v => cnt (o ++ [p]) ((li ol).take (j + 1)) v + cnt o t v:=by
    funext v
    rw [hA,hB,show edgeTo o v l = false by simp [edgeTo,g1],show edgeTo (o ++ [p]) v l = false by simp [edgeTo,g1]]
   rw [if_pos g1]
   rw [hf] at hQ ⊢
   exact ih (j + 1) q hs hpre hQ
  rw [if_neg g1]
  have g1':l.2.2.1 = 0:=Decidable.not_not.1 g1
  by_cases g2:l.1.1 ≠ (p:Int)
  ·have hf:(fun v => cnt (o ++ [p]) ((li ol).take j) v + cnt o (l :: t) v) = fun v => cnt (o ++ [p]) ((li ol).take (j + 1)) v + cnt o t v:=by
    funext v
    rw [hA,hB]
    have hne:¬ l.1.1.toNat = p:=by omega
    rw [show edgeTo o v l = edgeTo (o ++ [p]) v l by simp [edgeTo,hne]]
   rw [if_pos g2]
   rw [hf] at hQ ⊢
   exact ih (j + 1) q hs hpre hQ
  rw [if_neg g2]
  have g2':l.1.1 = (p:Int):=Decidable.not_not.1 g2
  have hA':∀ v,cnt (o ++ [p]) ((li ol).take j) v + cnt o (l :: t) v = (cnt (o ++ [p]) ((li ol).take (j + 1)) v + cnt o t v) + one (decide (l.2.1.1 = (v:Int))):=fun v => by
   rw [hA,hB,show edgeTo (o ++ [p]) v l = false by simp [edgeTo,g2'],show edgeTo o v l = decide (l.2.1.1 = (v:Int)) by simp [edgeTo,g1',g2',hp]]
   simp only [one,Bool.false_eq_true,if_false,Nat.add_zero]
  have hwe:l.2.1.1 = (l.2.1.1.toNat:Int):=by omega
  have hAw:cnt (o ++ [p]) ((li ol).take j) l.2.1.1.toNat + cnt o (l :: t) l.2.1.1.toNat = (cnt (o ++ [p]) ((li ol).take (j + 1)) l.2.1.1.toNat + cnt o t l.2.1.1.toNat) + 1:=by
   rw [hA',← hwe];simp [one]
  have hAo:∀ v,v ≠ l.2.1.1.toNat → cnt (o ++ [p]) ((li ol).take j) v + cnt o (l :: t) v = cnt (o ++ [p]) ((li ol).take (j + 1)) v + cnt o t v:=fun v hv => by
   rw [hA',show decide (l.2.1.1 = (v:Int)) = false by simp;omega];rfl
  have hwq:l.2.1.1.toNat ∉ q:=fun h => by
   have:=(hQ.ready _ hw).1 h
   omega
  have hbound:cnt (o ++ [p]) ((li ol).take (j + 1)) l.2.1.1.toNat + cnt o t l.2.1.1.toNat < 2000000000000000:=by
   have h1:=cnt_le (o ++ [p]) ((li ol).take (j + 1)) l.2.1.1.toNat
   have h2:=cnt_le o t l.2.1.1.toNat
   have h3:((li ol).take (j + 1)).length ≤ (li ol).length:=by simp;omega
   omega
  generalize hfj:(fun v => cnt (o ++ [p]) ((li ol).take j) v + cnt o (l :: t) v) = fj at hQ
  generalize hfk:(fun v => cnt (o ++ [p]) ((li ol).take (j + 1)) v + cnt o t v) = fk at *
  have hfw:fj l.2.1.1.toNat = fk l.2.1.1.toNat + 1:=by rw [← hfj,← hfk];exact hAw
  have hfo:∀ v,v ≠ l.2.1.1.toNat → fk v = fj v:=fun v hv => by rw [← hfj,← hfk];exact (hAo v hv).symm
  have hfb:fk l.2.1.1.toNat < 2000000000000000:=by rw [← hfk];exact hbound
  have e2:IntKind.i64.wrap (((fj l.2.1.1.toNat:Nat):Int) - 1) = ((fk l.2.1.1.toNat:Nat):Int):=by rw [wrap64 (by omega) (by omega)];omega
  have hset:=cV_set (n:=n) (f:=fj) (g:=fk) (i:=l.2.1.1.toNat) hfo
  simp only [I] at hset
  have hq32:q.length ≤ 32:=Nat.le_trans (pig n q hQ.nd hQ.lt) h32
  have hroom:(q.length + 1) * 8 ≤ room:=by unfold room;omega
  rw [mach_order.L4_eq]
  simp only [show fAddrO (.eptr [FV.int .i64 l.1.1,.int .i64 l.1.2.1,.int .i64 l.2.1.1,.int .i64 l.2.1.2.1,.int .i64 l.2.2.1,sl I l.2.2.2.1] 0) 2 = some (.eptr [FV.int .i64 l.1.1,.int .i64 l.1.2.1,.int .i64 l.2.1.1,.int .i64 l.2.1.2.1,.int .i64 l.2.2.1,sl I l.2.2.2.1] 2) from rfl,
   show fAddrO (.eptr [FV.int .i64 l.1.1,.int .i64 l.1.2.1,.int .i64 l.2.1.1,.int .i64 l.2.1.2.1,.int .i64 l.2.2.1,sl I l.2.2.2.1] 2) 0 = some (.eptr [FV.int .i64 l.1.1,.int .i64 l.1.2.1,.int .i64 l.2.1.1,.int .i64 l.2.1.2.1,.int .i64 l.2.2.1,sl I l.2.2.2.1] 2) from rfl,
   show fLd (.eptr [FV.int .i64 l.1.1,.int .i64 l.1.2.1,.int .i64 l.2.1.1,.int .i64 l.2.1.2.1,.int .i64 l.2.2.1,sl I l.2.2.2.1] 2) 0 = some (.int .i64 l.2.1.1) from rfl,
   bindO_s,cV_idx t0 t1,rGet_at (cV_get hw),List.getElem?_cons_zero,fBin_sub,e2,rSet_one (cV_get hw),hset,fBin_eql,fCond_b,decide_eq_true_eq,List.length_map,hroom,decide_true,gB_t,fBin_add,e1]
  by_cases g3:fk l.2.1.1.toNat = 0
  ·rw [if_pos (by omega)]
   have hpre':∃ r,q ++ [l.2.1.1.toNat] = (o ++ [p]) ++ r:=by
    obtain ⟨r,rfl⟩:=hpre
    exact ⟨r ++ [l.2.1.1.toNat],by simp⟩
   have hQ':Que (li ol) n fk (q ++ [l.2.1.1.toNat]):=by
    refine ⟨?_,?_,topo_push hQ.topo hwq ?_,?_⟩
    ·rw [List.nodup_append]
     exact ⟨hQ.nd,by simp,fun a ha b hb => by simp at hb;subst hb;exact fun e => hwq (e ▸ ha)⟩
    ·intro x hx
     rcases List.mem_append.1 hx with hx | hx
     ·exact hQ.lt x hx
     ·simp at hx;omega
    ·rintro u ⟨l',hl',d1,d2,d3⟩
     have hz:cnt (o ++ [p]) ((li ol).take (j + 1)) l.2.1.1.toNat = 0 ∧ cnt o t l.2.1.1.toNat = 0:=by
      rw [← hfk] at g3
      simp only at g3
      omega
     have hsub:u ∈ o ++ [p]:=by
      rw [← List.take_append_drop (j + 1) (li ol),hs] at hl'
      rcases List.mem_append.1 hl' with h | h
      ·exact cnt_zero hz.1 h d1 d2 d3
      ·have:=cnt_zero hz.2 h d1 d2 d3
       simp [this]
     obtain ⟨r,rfl⟩:=hpre
     simp only [List.mem_append] at hsub ⊢
     exact Or.inl hsub
    ·intro v hv
     by_cases e:v = l.2.1.1.toNat
     ·subst e;simp [g3]
     ·rw [hfo v e,← hQ.ready v hv];simp [e]
   rw [show q.map numR ++ [[FV.int .i64 l.2.1.1]] = (q ++ [l.2.1.1.toNat]).map numR by simp only [List.map_append,List.map_cons,List.map_nil,numR,I,← hwe]]
   have:=ih (j + 1) (q ++ [l.2.1.1.toNat]) hs hpre'
   rw [hfk] at this
   exact this hQ'
  ·rw [if_neg (by omega)]
   have hQ':Que (li ol) n fk q:=by
    refine ⟨hQ.nd,hQ.lt,hQ.topo,fun v hv => ?_⟩
    by_cases e:v = l.2.1.1.toNat
    ·subst e;simp [g3,hwq]
    ·rw [hfo v e];exact hQ.ready v hv
   have:=ih (j + 1) q hs hpre
   rw [hfk] at this
   exact this hQ'
theorem order_L2 (x0 x3 x4:FV):∀ (d h:Nat) (q:List Nat),n - h = d → h ≤ q.length → Que (li ol) n (cnt (q.take h) (li ol)) q →
  ∃ x b,mach_order.L2 x0 (sl PT ops) (sl LK ol) x3 x4 (cV n (cnt (q.take h) (li ol))) (.int .i64 (h:Int)) ((q.take h).map numR) (q.map numR) = some (.tup [x,.bool b]) ∧ (b = true ↔ Ranked (EE (li ol))) ∧ (b = true → ∃ o,x = .arr (o.map numR) ∧ Ord (EE (li ol)) n o):=by
 have hend:∀ (h:Nat) (q:List Nat),h = q.length → Que (li ol) n (cnt (q.take h) (li ol)) q →
   ∃ x b,mach_order.L2 x0 (sl PT ops) (sl LK ol) x3 x4 (cV n (cnt (q.take h) (li ol))) (.int .i64 (h:Int)) ((q.take h).map numR) (q.map numR) = some (.tup [x,.bool b]) ∧ (b = true ↔ Ranked (EE (li ol))) ∧ (b = true → ∃ o,x = .arr (o.map numR) ∧ Ord (EE (li ol)) n o):=by
  intro h q hh hQ
  subst hh
  have hlen:decide ((q.length:Int) = (n:Int)) = true → q.length = n:=fun h => by simp only [decide_eq_true_eq] at h;omega
  rw [List.take_length] at hQ
  refine ⟨.arr (q.map numR),decide ((q.length:Int) = (n:Int)),?_,?_,fun h => ⟨q,rfl,hQ.nd,hQ.lt,hlen h,hQ.topo⟩⟩
  ·rw [mach_order.L2_eq,List.take_length]
   simp only [List.length_map,fBin_eql,bindO_s,decide_true,fUn_not,Bool.not_true,fCond_b,Bool.false_eq_true,if_false,fLen_sl,hn]
  ·simp only [decide_eq_true_eq]
   constructor
   ·intro hl
    have hall:=pig_all hQ.nd hQ.lt (by omega)
    refine topo_ranked hQ.topo ?_
    rintro u v ⟨l,hl,e1,e2,e3⟩
    obtain ⟨f0,f1,t0,t1⟩:=hE l hl
    exact hall v (by omega)
   ·intro hR
    by_cases g:(q.length:Int) = (n:Int)
    ·exact g
    ·exfalso
     have hle:=pig n q hQ.nd hQ.lt
     obtain ⟨i,hi,hio⟩:∃ i,i < n ∧ i ∉ q:=by
      by_cases g2:∃ i,i < n ∧ i ∉ q
      ·exact g2
      ·exfalso
       have hall:∀ i ∈ List.range n,i ∈ q:=fun i hi => by
        by_cases g3:i ∈ q
        ·exact g3
        ·exact absurd ⟨i,by simpa using hi,g3⟩ g2
       have:=(List.nodup_range (n:=n)).length_le_of_subset hall
       simp at this
       omega
     refine stuck (fun j hj hjo => ?_) hi hio hR
     have hc:cnt q (li ol) j ≠ 0:=fun hz => hjo ((hQ.ready j hj).2 hz)
     obtain ⟨l,hl,d1,d2,d3⟩:=cnt_ne hc
     obtain ⟨f0,f1,t0,t1⟩:=hE l hl
     exact ⟨l.1.1.toNat,by omega,⟨l,hl,d1,by omega,d2⟩,d3⟩
 intro d
 induction d with
 | zero =>
  intro h q hd hh hQ
  have:=pig n q hQ.nd hQ.lt
  exact hend h q (by omega) hQ
 | succ d ih =>
  intro h q hd hh hQ
  by_cases g:h = q.length
  ·exact hend h q g hQ
  have hlt:h < q.length:=by omega
  have hle:=pig n q hQ.nd hQ.lt
  have hq:q[h]? = some q[h]:=List.getElem?_eq_getElem hlt
  have e1:IntKind.i64.wrap ((h:Int) + 1) = ((h + 1:Nat):Int):=wrap64 (by omega) (by omega)
  have hroom:(((q.take h).map numR).length + 1) * 8 ≤ room:=by unfold room;simp;omega
  have hix:rIdx (q.map numR) (.int .i64 (h:Int)) = some h:=rIdx_at (by simpa using hlt)
  have hg:rGet (q.map numR) h 0 = some (.int .i64 ((q[h]:Nat):Int)):=by
   rw [rGet_at (c:=numR q[h]) (by simp [hlt])];rfl
  have htk:q.take (h + 1) = q.take h ++ [q[h]]:=by rw [List.take_add_one,hq];rfl
  have hp:q[h] ∉ q.take h:=by
   intro hm
   have hnd:(q.take (h + 1)).Nodup:=List.Nodup.sublist (List.take_sublist _ _) hQ.nd
   rw [htk,List.nodup_append] at hnd
   exact hnd.2.2 _ hm _ (by simp) rfl
  rw [mach_order.L2_eq]
  simp only [List.length_map,fBin_eql,bindO_s,show ¬ ((h:Int) = (q.length:Int)) by omega,decide_false,fUn_not,Bool.not_false,fCond_b,if_true,hix,hg,fBin_add,e1,fLen_sl]
  simp only [List.length_map] at hroom
  simp only [hroom,decide_true,gB_t]
  have hQ0:Que (li ol) n (fun v => cnt (q.take h ++ [q[h]]) ((li ol).take 0) v + cnt (q.take h) (li ol) v) q:=by
   have:(fun v => cnt (q.take h ++ [q[h]]) ((li ol).take 0) v + cnt (q.take h) (li ol) v) = cnt (q.take h) (li ol):=by
    funext v
    simp [cnt]
   rw [this];exact hQ
  have hc0:cV n (cnt (q.take h) (li ol)) = cV n (fun v => cnt (q.take h ++ [q[h]]) ((li ol).take 0) v + cnt (q.take h) (li ol) v):=by
   congr 1
   funext v
   simp [cnt]
  have hpre:∃ r,q = (q.take h ++ [q[h]]) ++ r:=⟨q.drop (h + 1),by rw [← htk,List.take_append_drop]⟩
  obtain ⟨q',⟨r,hr⟩,hQ',heq⟩:=order_inner hn h32 hE hll x0 x3 x4 hp (.int .i64 ((h + 1:Nat):Int)) ((q.take h).map numR ++ [[.int .i64 ((q[h]:Nat):Int)]]) (li ol) 0 q rfl hpre hQ0
  rw [hc0]
  rw [show (FV.int IntKind.i64 0) = .int .i64 ((0:Nat):Int) from rfl,heq]
  have htk':q'.take (h + 1) = q.take h ++ [q[h]]:=by
   rw [hr,List.take_append_of_le_length (by simp;omega),List.take_of_length_le (by simp;omega)]
  have hlen:h + 1 ≤ q'.length:=by
   rw [hr];simp;omega
  have:=ih (h + 1) q' (by omega) hlen (by rw [htk'];exact hQ')
  rw [htk'] at this
  rw [show (q.take h).map numR ++ [[FV.int .i64 ((q[h]:Nat):Int)]] = (q.take h ++ [q[h]]).map numR by rw [List.map_append];rfl]
  exact this
theorem mach_order_ok (x0 x3 x4:FV):∃ x b,mach_order (.agg [x0,sl PT ops,sl LK ol,x3,x4]) = some (.tup [x,.bool b]) ∧ (b = true ↔ Ranked (EE (li ol))) ∧ (b = true → ∃ o,x = .arr (o.map numR) ∧ Ord (EE (li ol)) n o):=by
 have h0:=order_L0 hn h32 hE hll x0 x3 x4 _ 0 rfl
 have h1:=order_L1 hn h32 hE hll x0 x3 x4 (cnt [] (li ol)) n 0 [] (by omega) (by omega) (by simp)
 have hQ:Que (li ol) n (cnt [] (li ol)) ((List.range' 0 n).filter fun v => decide (cnt [] (li ol) v = 0)):=by
  refine ⟨?_,?_,?_,?_⟩
  ·exact List.Nodup.sublist List.filter_sublist List.nodup_range'
  ·intro x hx
   have:=(List.mem_filter.1 hx).1
   rw [List.mem_range'_1] at this
   omega
  ·intro u v e hv
   have hz:=(List.mem_filter.1 hv).2
   simp only [decide_eq_true_eq] at hz
   obtain ⟨l,hl,d1,d2,d3⟩:=e
   exact absurd (cnt_zero hz hl d1 d2 d3) (by simp)
  ·intro v hv
   rw [List.mem_filter,List.mem_range'_1]
   simp
   omega
 have h2:=order_L2 hn h32 hE hll x0 x3 x4 n 0 _ (by omega) (Nat.zero_le _) (by rw [List.take_zero];exact hQ)
 rw [mach_order.eq]
 simp only [fIsAgg_agg,List.length_cons,List.length_nil,fCell_zero,fCell_succ,fLen_sl,hn,bindO_s,asNat_nat]
 rw [show (0 + 1 + 1 + 1 + 1 + 1 == 5) = true from rfl,gB_t]
 have hroom:(decide (n ≤ n) && decide (n * 8 ≤ room) && decide (1 ≥ 1)) = true:=by
  have:n * 8 ≤ room:=by unfold room;omega
  simp;omega
 rw [hroom,gB_t,vec_rep]
 rw [show (vec n fun _ => [(FV.int .i64 0:FV)]) = cV n (cnt [] ((li ol).take 0)) from by
  unfold cV;congr 1]
 refine (show ∃ x b,mach_order.L0 (sl LK ol) (.int .i64 ((li ol).length:Int)) (.int .i64 ((0:Nat):Int)) x0 (sl PT ops) (sl LK ol) x3 x4 (cV n (cnt [] ((li ol).take 0))) = some (.tup [x,.bool b]) ∧ (b = true ↔ Ranked (EE (li ol))) ∧ (b = true → ∃ o,x = .arr (o.map numR) ∧ Ord (EE (li ol)) n o) from ?_)
 rw [h0]
 rw [show (FV.int IntKind.i64 0) = .int .i64 ((0:Nat):Int) from rfl]
 have h1':=h1
 rw [show (FV.int IntKind.i64 0) = .int .i64 ((0:Nat):Int) from rfl] at h1'
 rw [show ([]:List (List FV)) = ([]:List Nat).map numR from rfl,h1']
 exact h2
end
end Go.Proofs.Ytelcbakleaaneaa
end
section
namespace Go.Proofs.Ytelcbakleaaneaa
open Go Go.Proofs.Ytelcbakleaaneaa.VM
noncomputable def ordC (ls:List TLink):Int:=@ite _ (Ranked (EE ls)) (Classical.propDecidable _) 0 25
theorem ordC_b {ls:List TLink} {b:Bool} (h:b = true ↔ Ranked (EE ls)):(if (!b) = true then some (FV.int .i64 25) else some (.int .i64 0)) = some (.int .i64 (ordC ls)):=by
 unfold ordC
 cases b with
 | true =>
  have hR:=h.1 rfl
  have:(@ite Int (Ranked (EE ls)) (Classical.propDecidable _) 0 25) = 0:=if_pos hR
  rw [this];rfl
 | false =>
  have hR:¬ Ranked (EE ls):=fun g => by simpa using h.2 g
  have:(@ite Int (Ranked (EE ls)) (Classical.propDecidable _) 0 25) = 25:=if_neg hR
  rw [this];rfl
def linksC (ms:List TMach) (ps:List TPart) (ls:List TLink) (is os:List TPin):Int :=
 if 64 < ls.length then 26 else if linksGo ms ps [] ls ≠ 0 then linksGo ms ps [] ls else if insGo ms ps (fed ls) is ≠ 0 then insGo ms ps (fed ls) is
 else if outsGo ms ps [] os ≠ 0 then outsGo ms ps [] os else if wholeB ms ps (fed ls ++ is) then 0 else 24
noncomputable def netC (ms:List TMach) (nm:Str) (ps:List TPart) (ls:List TLink) (is os:List TPin):Int :=
 if isNm nm = false then 21 else if (ps.length:Int) = 0 then 26 else if 32 < (ps.length:Int) then 26 else if partsGo ms.length [] ps ≠ 0 then partsGo ms.length [] ps
 else if linksC ms ps ls is os ≠ 0 then linksC ms ps ls is os else ordC ls
section
variable {oms:Option (List TMach)} {ops:Option (List TPart)} {ol:Option (List TLink)} {oi oo:Option (List TPin)} {nm:Str}
variable (hsm:∀ m ∈ li oms,SmM m) (hlm:(li oms).length < 1000000000000000) (hlp:(li ops).length < 1000000000000000) (hll:(li ol).length < 1000000000000000) (hli:(li oi).length < 1000000000000000) (hlo:(li oo).length < 1000000000000000)
variable (hps:∀ p ∈ li ops,p.1.length < 1000000000000000) (hls:∀ l ∈ li ol,SmL l)
include hsm hlm hlp hll hli hlo hps hls
theorem ref_parts_L2 (x2 x3:FV):∀ (t:List TPart) (k:Nat),(li ops).drop k = t →
  ref02_CheckNet.L2 (.int .i64 (k:Int)) (sl MC oms) x2 x3 (sl PT ops) (sl LK ol) (sl PN oi) (sl PN oo) =
   (if partsGo (li oms).length (((li ops).take k).map Prod.fst) t ≠ 0 then some (.int .i64 (partsGo (li oms).length (((li ops).take k).map Prod.fst) t)) else
    if 64 < (li ol).length then some (.int .i64 26) else ref02_CheckNet.L3 (.int .i64 ((0:Nat):Int)) (sl MC oms) x2 x3 (sl PT ops) (sl LK ol) (sl PN oi) (sl PN oo)):=by
 intro t
 induction t with
 | nil =>
  intro k hd
  rw [ref02_CheckNet.L2_eq]
  simp only [fLen_sl,bindO_s,fCond_b,fBin_lss,decide_eq_true_eq,Int.ofNat_lt,drop_nil hd,if_false,partsGo,ne_eq,not_true_eq_false,fBin_gtr]
  by_cases g:64 < (li ol).length
  ·rw [if_pos (by omega),if_pos g]
  ·rw [if_neg (by omega),if_neg g];rfl
 | cons p t ih =>
  intro k hd
  obtain ⟨hk,hn,hs⟩:=drop_cons hd
  have e1:IntKind.i64.wrap ((k:Int) + 1) = ((k + 1:Nat):Int):=wrap64 (by omega) (by omega)
  have hnm:=hps p (List.mem_of_getElem? hn)
  obtain ⟨j,h1,h2⟩:=partAt_ok (l:=(li ops).take k) (by simp;omega) p.1
  have htk:((li ops).take (k + 1)).map Prod.fst = ((li ops).take k).map Prod.fst ++ [p.1]:=by rw [List.take_add_one,hn];simp
  have ih':=ih (k + 1) hs
  rw [htk] at ih'
  rw [ref02_CheckNet.L2_eq]
  simp only [fLen_sl,bindO_s,fCond_b,fBin_lss,decide_eq_true_eq,Int.ofNat_lt,hk,if_true,idx_sl hn (PT_len p),PT_zero,PT_one,ref_isName_ok hnm,fUn_not,Bool.not_eq_true',cut_sl PT_len hk,h1,fBin_geq,h2,fBin_add,e1,ih',partsGo]
  by_cases g:isNm p.1 = false
  ·simp [g]
  simp only [g,if_false,reduceCtorEq]
  by_cases g2:p.1 ∈ ((li ops).take k).map Prod.fst
  ·simp only [g2,if_true];rfl
  simp only [g2,if_false]
  by_cases g3:p.2.1 < 0
  ·simp only [g3,if_true];rfl
  simp only [g3,if_false]
  by_cases g4:((li oms).length:Int) ≤ p.2.1
  ·simp only [g4,if_true];rfl
  simp only [g4,if_false]
theorem ref_links_L3 (hin:PartsIn (li oms).length (li ops)) (x2 x3:FV):∀ (t:List TLink) (k:Nat),(li ol).drop k = t →
  ref02_CheckNet.L3 (.int .i64 (k:Int)) (sl MC oms) x2 x3 (sl PT ops) (sl LK ol) (sl PN oi) (sl PN oo) =
   (if linksGo (li oms) (li ops) (fed ((li ol).take k)) t ≠ 0 then some (.int .i64 (linksGo (li oms) (li ops) (fed ((li ol).take k)) t)) else ref02_CheckNet.L4 (.int .i64 ((0:Nat):Int)) (sl MC oms) x2 x3 (sl PT ops) (sl LK ol) (sl PN oi) (sl PN oo)):=by
 intro t
 induction t with
 | nil =>
  intro k hd
  rw [ref02_CheckNet.L3_eq]
  simp only [fLen_sl,bindO_s,fCond_b,fBin_lss,decide_eq_true_eq,Int.ofNat_lt,drop_nil hd,if_false,linksGo,ne_eq,not_true_eq_false]
  rfl
 | cons l t ih =>
  intro k hd
  obtain ⟨hk,hn,hs⟩:=drop_cons hd
  have e1:IntKind.i64.wrap ((k:Int) + 1) = ((k + 1:Nat):Int):=wrap64 (by omega) (by omega)
  have htk:fed ((li ol).take (k + 1)) = fed ((li ol).take k) ++ [l.2.1]:=by rw [List.take_add_one,hn];simp [fed]
  have ih':=ih (k + 1) hs
  rw [htk] at ih'
  rw [ref02_CheckNet.L3_eq]
  simp only [fLen_sl,bindO_s,fCond_b,fBin_lss,decide_eq_true_eq,Int.ofNat_lt,hk,if_true,ref_link_ok hin hll x3 (sl PN oi) (sl PN oo) hn (hls l (List.mem_of_getElem? hn)),fBin_neq,fBin_add,e1,ih',linksGo]
  by_cases g:linkC (li oms) (li ops) (fed ((li ol).take k)) l ≠ 0
  ·simp only [g,if_true,ne_eq,not_false_eq_true]
  ·simp only [g,if_false]
theorem ref_net_ok (onx:FV) (hnm:nm.length < 1000000000000000):(bindO (ref02_IsName (.str nm)) fun v12 =>
 bindO (fUn .not v12) fun v13 =>
 fCond v13
 (some (.int .i64 21))
 (bindO (fLen (sl PT ops)) fun v14 =>
 bindO (fBin .eql v14 (.int .i64 0)) fun v15 =>
 fCond v15
 (some (.int .i64 26))
 (bindO (fLen (sl PT ops)) fun v16 =>
 bindO (fBin .gtr v16 (.int .i64 32)) fun v17 =>
 fCond v17
 (some (.int .i64 26))
 (ref02_CheckNet.L1 (sl MC oms) onx (.str nm) (sl PT ops) (sl LK ol) (sl PN oi) (sl PN oo))))) = some (.int .i64 (netC (li oms) nm (li ops) (li ol) (li oi) (li oo))):=by
 simp only [ref_isName_ok hnm,bindO_s,fUn_not,fCond_b,Bool.not_eq_true',fLen_sl,fBin_eql,fBin_gtr,decide_eq_true_eq,netC]
 by_cases g1:isNm nm = false
 ·simp only [g1,if_true]
 simp only [g1,if_false,reduceCtorEq]
 by_cases g2:((li ops).length:Int) = 0
 ·simp only [g2,if_true]
 simp only [g2,if_false]
 by_cases g3:32 < ((li ops).length:Int)
 ·simp only [g3,if_true]
 simp only [g3,if_false]
 rw [ref02_CheckNet.L1_eq,show (FV.int IntKind.i64 0) = .int .i64 ((0:Nat):Int) from rfl,ref_parts_L2 hsm hlm hlp hll hli hlo hps hls onx (.str nm) _ 0 rfl]
 simp only [List.take_zero,List.map_nil,List.drop_zero]
 by_cases g4:partsGo (li oms).length [] (li ops) ≠ 0
 ·simp only [g4,if_true,ne_eq,not_false_eq_true]
 simp only [g4,if_false]
 have hin:PartsIn (li oms).length (li ops):=partsGo_in _ _ (Decidable.not_not.1 g4)
 unfold linksC
 by_cases g5:64 < (li ol).length
 ·simp only [g5,if_true];rfl
 simp only [g5,if_false]
 rw [ref_links_L3 hsm hlm hlp hll hli hlo hps hls hin onx (.str nm) _ 0 rfl]
 simp only [List.take_zero,List.drop_zero,show fed [] = [] from rfl]
 by_cases g6:linksGo (li oms) (li ops) [] (li ol) ≠ 0
 ·simp only [g6,if_true,ne_eq,not_false_eq_true]
 simp only [g6,if_false]
 have hE:=linksGo_in _ _ (Decidable.not_not.1 g6)
 rw [ref_ins_L4 hin hll hli hlo onx (.str nm) _ 0 rfl]
 simp only [List.take_zero,List.drop_zero,List.append_nil]
 by_cases g7:insGo (li oms) (li ops) (fed (li ol)) (li oi) ≠ 0
 ·simp only [g7,if_true,ne_eq,not_false_eq_true]
 simp only [g7,if_false]
 rw [ref_outs_L5 hin hlo onx (.str nm) _ 0 rfl]
 simp only [List.take_zero,List.drop_zero]
 by_cases g8:outsGo (li oms) (li ops) [] (li oo) ≠ 0
 ·simp only [g8,if_true,ne_eq,not_false_eq_true]
 simp only [g8,if_false]
 rw [ref02_CheckNet.L5_eq]
 obtain ⟨x,b,h1,h2,_⟩:=ref_order_ok (ol:=ol) rfl (show (li ops).length ≤ 32 by omega) hE hll (.str nm) (sl PN oi) (sl PN oo)
 simp only [fLen_sl,bindO_s,fBin_lss,fCond_b,Int.lt_irrefl,decide_false,Bool.false_eq_true,if_false,ref_whole_ok hin hll hli (oo:=oo) hsm hlp (.str nm),fUn_not,Bool.not_eq_true',h1,fIsTup_tup,List.length_cons,List.length_nil,fTup_succ,fTup_zero]
 by_cases g9:wholeB (li oms) (li ops) (fed (li ol) ++ li oi) = true
 ·simp only [g9,if_true,if_false,reduceCtorEq,ne_eq,not_true_eq_false]
  rw [show (0 + 1 + 1 == 2) = true from rfl,gB_t]
  have:=ordC_b h2
  simpa using this
 ·simp [g9]
theorem mach_checkLinks_ok (hin:PartsIn (li oms).length (li ops)) (xn:FV):mach_checkLinks (.agg [sl MC oms,xn]) (.agg [.str nm,sl PT ops,sl LK ol,sl PN oi,sl PN oo]) = some (.int .i64 (linksC (li oms) (li ops) (li ol) (li oi) (li oo))):=by
 rw [mach_checkLinks.eq]
 simp only [fIsAgg_agg,List.length_cons,List.length_nil,fCell_zero,fCell_succ,fLen_sl,bindO_s,fBin_gtr,fCond_b,decide_eq_true_eq,linksC]
 rw [show (0 + 1 + 1 == 2) = true from rfl,gB_t,show (0 + 1 + 1 + 1 + 1 + 1 == 5) = true from rfl,gB_t]
 by_cases g5:64 < (li ol).length
 ·rw [if_pos (by omega),if_pos g5]
 rw [if_neg (by omega),if_neg g5]
 have h0:=mach_links_L0 hin hll hls xn (.str nm) (sl PN oi) (sl PN oo) [] _ 0 rfl
 simp only [List.take_zero,List.drop_zero,show fed [] = [] from rfl] at h0
 refine Eq.trans h0 ?_
 by_cases g6:linksGo (li oms) (li ops) [] (li ol) ≠ 0
 ·simp only [g6,if_true,ne_eq,not_false_eq_true]
 simp only [g6,if_false]
 rw [mach_checkLinks.L0_eq]
 simp only [bindO_s,fBin_lss,fCond_b,Int.lt_irrefl,decide_false,Bool.false_eq_true,if_false,fLen_sl]
 have h4:=mach_ins_L4 (ol:=ol) (oo:=oo) hin hli xn (.str nm) _ 0 (fed (li ol)) rfl
 simp only [List.drop_zero] at h4
 refine Eq.trans h4 ?_
 by_cases g7:insGo (li oms) (li ops) (fed (li ol)) (li oi) ≠ 0
 ·simp only [g7,if_true,ne_eq,not_false_eq_true]
 simp only [g7,if_false]
 have h5:=mach_outs_L5 (ol:=ol) (oi:=oi) hin hlo xn (.str nm) (setM pinK (fed (li ol) ++ li oi)) _ 0 [] rfl
 simp only [List.drop_zero] at h5
 refine Eq.trans h5 ?_
 by_cases g8:outsGo (li oms) (li ops) [] (li oo) ≠ 0
 ·simp only [g8,if_true,ne_eq,not_false_eq_true]
 simp only [g8,if_false]
 rw [mach_whole_L6 (ol:=ol) (oi:=oi) hin hsm hlp xn (.str nm) (sl PN oo) _ _ _ 0 rfl]
 rfl
theorem mach_parts_L2 (x4:FV):∀ (t:List TPart) (k:Nat) (s:List Str),(li ops).drop k = t →
  mach_CheckNet.L2 (sl PT ops) (.int .i64 ((li ops).length:Int)) (.int .i64 (k:Int)) (sl MC oms) x4 (.str nm) (sl PT ops) (sl LK ol) (sl PN oi) (sl PN oo) (setM FV.str s) =
   (if partsGo (li oms).length s t ≠ 0 then some (.int .i64 (partsGo (li oms).length s t)) else
    mach_CheckNet.L2 (sl PT ops) (.int .i64 ((li ops).length:Int)) (.int .i64 ((li ops).length:Int)) (sl MC oms) x4 (.str nm) (sl PT ops) (sl LK ol) (sl PN oi) (sl PN oo) []):=by
 intro t
 induction t with
 | nil =>
  intro k s hd
  have hk:=drop_nil hd
  rw [mach_CheckNet.L2_eq,mach_CheckNet.L2_eq]
  simp only [fLen_sl,bindO_s,fCond_b,fBin_lss,decide_eq_true_eq,Int.ofNat_lt,hk,Int.lt_irrefl,if_false,partsGo,ne_eq,not_true_eq_false]
 | cons p t ih =>
  intro k s hd
  obtain ⟨hk,hn,hs⟩:=drop_cons hd
  have e1:IntKind.i64.wrap ((k:Int) + 1) = ((k + 1:Nat):Int):=wrap64 (by omega) (by omega)
  have hnm:=hps p (List.mem_of_getElem? hn)
  rw [mach_CheckNet.L2_eq]
  simp only [fLen_sl,bindO_s,fCond_b,fBin_lss,decide_eq_true_eq,Int.ofNat_lt,hk,if_true,idx_sl hn (PT_len p),PT_zero,PT_one,mach_isName_ok hnm,fUn_not,Bool.not_eq_true',mLook_set str_keyEq str_keyOk,fBin_geq,mach_CheckNet.L3_eq,str_keyOk,gB_t,fBin_add,e1,partsGo]
  by_cases g:isNm p.1 = false
  ·simp [g]
  simp only [g,if_false,reduceCtorEq]
  by_cases g2:p.1 ∈ s
  ·simp only [g2,if_true];rfl
  simp only [g2,if_false,mPut_set str_keyEq p.1 s g2,bindO_s,ih (k + 1) _ hs]
  by_cases g3:p.2.1 < 0
  ·simp only [g3,if_true];rfl
  simp only [g3,if_false]
  by_cases g4:((li oms).length:Int) ≤ p.2.1
  ·simp only [g4,if_true];rfl
  simp only [g4,if_false]
theorem mach_net_ok (onx:FV) (hnm:nm.length < 1000000000000000):(bindO (mach_isName (.str nm)) fun v12 =>
 bindO (fUn .not v12) fun v13 =>
 fCond v13
 (some (.int .i64 21))
 (bindO (fLen (sl PT ops)) fun v14 =>
 bindO (fBin .eql v14 (.int .i64 0)) fun v15 =>
 fCond v15
 (some (.int .i64 26))
 (bindO (fLen (sl PT ops)) fun v16 =>
 bindO (fBin .gtr v16 (.int .i64 32)) fun v17 =>
 fCond v17
 (some (.int .i64 26))
 (mach_CheckNet.L1 (sl MC oms) onx (.str nm) (sl PT ops) (sl LK ol) (sl PN oi) (sl PN oo))))) = some (.int .i64 (netC (li oms) nm (li ops) (li ol) (li oi) (li oo))):=by
 simp only [mach_isName_ok hnm,bindO_s,fUn_not,fCond_b,Bool.not_eq_true',fLen_sl,fBin_eql,fBin_gtr,decide_eq_true_eq,netC]
 by_cases g1:isNm nm = false
 ·simp only [g1,if_true]
 simp only [g1,if_false,reduceCtorEq]
 by_cases g2:((li ops).length:Int) = 0
 ·simp only [g2,if_true]
 simp only [g2,if_false]
 by_cases g3:32 < ((li ops).length:Int)
 ·simp only [g3,if_true]
 simp only [g3,if_false]
 rw [mach_CheckNet.L1_eq]
 simp only [fLen_sl,bindO_s]
 have h2:=mach_parts_L2 (nm:=nm) hsm hlm hlp hll hli hlo hps hls onx _ 0 [] rfl
 simp only [List.drop_zero] at h2
 refine Eq.trans h2 ?_
 by_cases g4:partsGo (li oms).length [] (li ops) ≠ 0
 ·simp only [g4,if_true,ne_eq,not_false_eq_true]
 simp only [g4,if_false]
 have hin:PartsIn (li oms).length (li ops):=partsGo_in _ _ (Decidable.not_not.1 g4)
 rw [mach_CheckNet.L2_eq]
 simp only [bindO_s,fBin_lss,fCond_b,Int.lt_irrefl,decide_false,Bool.false_eq_true,if_false,mach_checkLinks_ok hsm hlm hlp hll hli hlo hps hls hin onx,fBin_neq,decide_eq_true_eq]
 by_cases g5:linksC (li oms) (li ops) (li ol) (li oi) (li oo) ≠ 0
 ·simp only [g5,if_true,ne_eq,not_false_eq_true]
 simp only [g5,if_false]
 have hE:EdgesIn (li ops).length (li ol):=by
  refine linksGo_in (ms:=li oms) _ [] ?_
  have g5':=Decidable.not_not.1 g5
  unfold linksC at g5'
  by_cases k1:64 < (li ol).length
  ·rw [if_pos k1] at g5';omega
  rw [if_neg k1] at g5'
  by_cases k2:linksGo (li oms) (li ops) [] (li ol) ≠ 0
  ·rw [if_pos k2] at g5';exact g5'
  ·exact Decidable.not_not.1 k2
 obtain ⟨x,b,h1,h2,_⟩:=mach_order_ok (ol:=ol) rfl (show (li ops).length ≤ 32 by omega) hE hll (.str nm) (sl PN oi) (sl PN oo)
 simp only [h1,bindO_s,fIsTup_tup,List.length_cons,List.length_nil,fTup_succ,fTup_zero,fUn_not]
 rw [show (0 + 1 + 1 == 2) = true from rfl,gB_t,fCond_b]
 exact ordC_b h2
end
def SmN (n:TNet):Prop:=n.1.length < 1000000000000000 ∧ ((li n.2.1).length < 1000000000000000 ∧ ∀ p ∈ li n.2.1,p.1.length < 1000000000000000) ∧ ((li n.2.2.1).length < 1000000000000000 ∧ ∀ l ∈ li n.2.2.1,SmL l) ∧ (li n.2.2.2.1).length < 1000000000000000 ∧ (li n.2.2.2.2.1).length < 1000000000000000
end Go.Proofs.Ytelcbakleaaneaa
end
end
