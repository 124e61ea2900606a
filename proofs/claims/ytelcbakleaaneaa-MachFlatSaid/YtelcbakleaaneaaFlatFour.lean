/- Steps of the proof: One machine for a net: a state as a list of numbers, and as a text; One machine for a net: the document's table of states; One machine for a net: the states reached, in their order; One machine for a net: the document's states; One machine for a net: new names, in both programs; One machine for a net: the document's machine; One machine for a net: the document's answer; One machine for a net: the program's states; One machine for a net: the program's answer; One machine for a net: the machine of all states, and what it runs; One machine for a net: the law; One machine for a net: the whole; MachRuns, for the row's arguments; MachChecks, for the row's arguments; MachNets, for the row's arguments; MachFlat, for the row's arguments. -/
import Derived.Test.YtelcbakleaaneaaFlatThree
import Derived.Test.YtelcbakleaaneaaFlatTwo
import Derived.Test.YtelcbakleaaneaaFlatOne
import Derived.Test.YtelcbakleaaneaaTcsMachRuns
import Derived.Test.YtelcbakleaaneaaTcsMachChecks
import Derived.Test.YtelcbakleaaneaaTcsMachNets
import Derived.Test.YtelcbakleaaneaaTcsMachFlat
set_option linter.unusedVariables false
set_option linter.unusedSimpArgs false
set_option linter.unusedSectionVars false
section
namespace Go.Proofs.Ytelcbakleaaneaa
open Go Go.Proofs.Ytelcbakleaaneaa.VM
abbrev Sg:=List Int × List (List Int)
def flL (s:Sg):List Int:=s.1 ++ s.2.flatten
def SgV (s:Sg):List FV:=[.arr (s.1.map I),.arr (s.2.map LL)]
theorem flat_L0 {Q:List (List Int)} (hQ:Q.length ≤ 1000000) (x1:FV):∀ (t:List (List Int)) (i:Nat) (acc:List Int),Q.drop i = t → acc.length + t.flatten.length ≤ 1000000 →
  ref02_flat.L0 (.int .i64 (i:Int)) x1 (.arr (Q.map LL)) (acc.map I) = some (.arr ((acc ++ t.flatten).map I)):=by
 intro t
 induction t with
 | nil =>
  intro i acc hd ha
  rw [ref02_flat.L0_eq]
  simp only [fLen_arr,List.length_map,bindO_s,fBin_lss,fCond_b,decide_eq_true_eq,Int.ofNat_lt,drop_nil hd,if_false,List.flatten_nil,List.append_nil]
 | cons q t ih =>
  intro i acc hd ha
  obtain ⟨hi,hn,hs⟩:=drop_cons hd
  simp only [List.flatten_cons,List.length_append] at ha
  have w:IntKind.i64.wrap ((i:Int) + 1) = ((i + 1:Nat):Int):=wrap64 (by omega) (by omega)
  have hg:(Q.map LL)[i]? = some (LL q):=by rw [List.getElem?_map,hn];rfl
  have ih':=ih (i + 1) (acc ++ q) hs (by rw [List.length_append];omega)
  rw [ref02_flat.L0_eq]
  simp only [fLen_arr,List.length_map,bindO_s,fBin_lss,fCond_b,decide_eq_true_eq,Int.ofNat_lt,hi,if_true,idx_arr hg (LL_len q),LL_zero,asRows_arr,rowsSz_I,gB_t,show (acc.length + q.length) * 8 ≤ room by unfold room;omega,decide_true,fBin_add,w]
  rw [← List.map_append,ih']
  simp
theorem flat_ok {s:Sg} (hQ:s.2.length ≤ 1000000) (hl:(flL s).length ≤ 1000000):ref02_flat (.agg (SgV s)) = some (.arr ((flL s).map I)):=by
 unfold flL at hl ⊢
 rw [List.length_append] at hl
 rw [ref02_flat.eq]
 simp only [SgV,fIsAgg_agg,List.length_cons,List.length_nil,fCell_zero,fCell_succ,asRows_arr,bindO_s,rowsSz_I,gB_t,List.length_map,show (0 + s.1.length) * 8 ≤ room by unfold room;omega,decide_true,List.nil_append]
 rw [show (0 + 1 + 1 == 2) = true from rfl,gB_t]
 exact flat_L0 hQ _ s.2 0 s.1 rfl (by omega)
theorem key_L2 {q:List Int} (x0 x1 x2 x6 x7:FV) (i:Nat) (hx:x2 = .int .i64 (i:Int)) (hi:i ≤ 1000000):∀ (t:List Int) (m:Nat) (acc:List Int),q.drop m = t → acc.length + t.length ≤ 1000000 → q.length ≤ 1000000 →
  mach_netState_key.L2 x0 x1 x2 (.arr (q.map I)) (.int .i64 (q.length:Int)) (.int .i64 (m:Int)) x6 x7 (BV acc) = mach_netState_key.L1 x0 x1 (.int .i64 ((i + 1:Nat):Int)) x6 x7 (BV (acc ++ t)):=by
 intro t
 induction t with
 | nil =>
  intro m acc hd ha hq
  have w:IntKind.i64.wrap ((i:Int) + 1) = ((i + 1:Nat):Int):=wrap64 (by omega) (by omega)
  rw [mach_netState_key.L2_eq,hx]
  simp only [bindO_s,fBin_lss,fCond_b,decide_eq_true_eq,Int.ofNat_lt,drop_nil hd,if_false,fBin_add,w,List.append_nil]
 | cons v t ih =>
  intro m acc hd ha hq
  obtain ⟨hm,hn,hs⟩:=drop_cons hd
  simp only [List.length_cons] at ha
  have w:IntKind.i64.wrap ((m:Int) + 1) = ((m + 1:Nat):Int):=wrap64 (by omega) (by omega)
  have hg:(q.map I)[m]? = some (I v):=by rw [List.getElem?_map,hn];rfl
  have ih':=ih (m + 1) (acc ++ [v]) hs (by rw [List.length_append,List.length_singleton];omega) hq
  rw [mach_netState_key.L2_eq]
  simp only [bindO_s,fBin_lss,fCond_b,decide_eq_true_eq,Int.ofNat_lt,hm,if_true,idx_arr hg (I_len v),I_zero,fConvInt_int,BV_len,show (acc.length + 1) * 1 ≤ room by unfold room;omega,decide_true,gB_t,fBin_add,w]
  rw [show BV acc ++ [[FV.int .u8 (IntKind.u8.wrap v)]] = BV (acc ++ [v]) by simp [BV]]
  rw [ih']
  simp
theorem key_L1 {Q:List (List Int)} (hQ:Q.length ≤ 1000000) (x3:FV):∀ (t:List (List Int)) (i:Nat) (acc:List Int),Q.drop i = t → acc.length + t.flatten.length ≤ 1000000 →
  mach_netState_key.L1 (.arr (Q.map LL)) (.int .i64 (Q.length:Int)) (.int .i64 (i:Int)) x3 (.arr (Q.map LL)) (BV acc) = some (.str (kT (acc ++ t.flatten))):=by
 intro t
 induction t with
 | nil =>
  intro i acc hd ha
  rw [mach_netState_key.L1_eq]
  simp only [bindO_s,fBin_lss,fCond_b,decide_eq_true_eq,Int.ofNat_lt,drop_nil hd,if_false,bytes_BV,List.flatten_nil,List.append_nil]
 | cons q t ih =>
  intro i acc hd ha
  obtain ⟨hi,hn,hs⟩:=drop_cons hd
  simp only [List.flatten_cons,List.length_append] at ha
  have hg:(Q.map LL)[i]? = some (LL q):=by rw [List.getElem?_map,hn];rfl
  have ih':=ih (i + 1) (acc ++ q) hs (by rw [List.length_append];omega)
  have h2:=key_L2 (q:=q) (.arr (Q.map LL)) (.int .i64 (Q.length:Int)) (.int .i64 (i:Int)) x3 (.arr (Q.map LL)) i rfl (by omega) q 0 acc rfl (by omega) (by omega)
  rw [mach_netState_key.L1_eq]
  simp only [bindO_s,fBin_lss,fCond_b,decide_eq_true_eq,Int.ofNat_lt,hi,if_true,idx_arr hg (LL_len q),LL_zero,fLen_arr,List.length_map]
  refine Eq.trans h2 (Eq.trans ih' ?_)
  simp
theorem key_L0 {sts:List Int} {Q:List (List Int)} (hQ:Q.length ≤ 1000000) (hsl:sts.length ≤ 1000000):∀ (t:List Int) (m:Nat) (acc:List Int),sts.drop m = t → acc.length + t.length + Q.flatten.length ≤ 1000000 →
  mach_netState_key.L0 (.arr (sts.map I)) (.int .i64 (sts.length:Int)) (.int .i64 (m:Int)) (.arr (sts.map I)) (.arr (Q.map LL)) (BV acc) = some (.str (kT (acc ++ t ++ Q.flatten))):=by
 intro t
 induction t with
 | nil =>
  intro m acc hd ha
  have h1:=key_L1 hQ (.arr (sts.map I)) Q 0 acc rfl (by rw [List.length_nil] at ha;omega)
  rw [mach_netState_key.L0_eq]
  simp only [bindO_s,fBin_lss,fCond_b,decide_eq_true_eq,Int.ofNat_lt,drop_nil hd,if_false,fLen_arr,List.length_map,List.append_nil]
  exact h1
 | cons v t ih =>
  intro m acc hd ha
  obtain ⟨hm,hn,hs⟩:=drop_cons hd
  simp only [List.length_cons] at ha
  have w:IntKind.i64.wrap ((m:Int) + 1) = ((m + 1:Nat):Int):=wrap64 (by omega) (by omega)
  have hg:(sts.map I)[m]? = some (I v):=by rw [List.getElem?_map,hn];rfl
  have ih':=ih (m + 1) (acc ++ [v]) hs (by rw [List.length_append,List.length_singleton];omega)
  rw [mach_netState_key.L0_eq]
  simp only [bindO_s,fBin_lss,fCond_b,decide_eq_true_eq,Int.ofNat_lt,hm,if_true,idx_arr hg (I_len v),I_zero,fConvInt_int,BV_len,show (acc.length + 1) * 1 ≤ room by unfold room;omega,decide_true,gB_t,fBin_add,w]
  rw [show BV acc ++ [[FV.int .u8 (IntKind.u8.wrap v)]] = BV (acc ++ [v]) by simp [BV]]
  rw [ih']
  simp
theorem key_ok {s:Sg} (hQ:s.2.length ≤ 1000000) (hl:(flL s).length ≤ 1000000):mach_netState_key (.agg (SgV s)) = some (.str (kT (flL s))):=by
 unfold flL at hl ⊢
 rw [List.length_append] at hl
 have h0:=key_L0 (sts:=s.1) hQ (by omega) s.1 0 [] rfl (by rw [List.length_nil];omega)
 rw [mach_netState_key.eq]
 simp only [SgV,fIsAgg_agg,List.length_cons,List.length_nil,fCell_zero,fCell_succ,fLen_arr,List.length_map,bindO_s]
 rw [show (0 + 1 + 1 == 2) = true from rfl,gB_t]
 simpa [BV] using h0
theorem flatten_inj:∀ {a b:List (List Int)},a.map List.length = b.map List.length → a.flatten = b.flatten → a = b
 | [],[],_,_ => rfl
 | [],y :: b,h,_ => by simp at h
 | x :: a,[],h,_ => by simp at h
 | x :: a,y :: b,h,e => by
  simp only [List.map_cons,List.cons.injEq] at h
  simp only [List.flatten_cons] at e
  obtain ⟨e1,e2⟩:=List.append_inj e h.1
  rw [e1,flatten_inj h.2 e2]
theorem flL_inj {s t:Sg} (h1:s.1.length = t.1.length) (h2:s.2.map List.length = t.2.map List.length) (e:flL s = flL t):s = t:=by
 obtain ⟨e1,e2⟩:=List.append_inj e h1
 exact Prod.ext e1 (flatten_inj h2 e2)
section
variable {ms:List TMach} {ps:List TPart} {ls:List TLink} {is os:List TPin} (h:OkN ms ps ls is os) (hms:OkMs ms)
include h hms
theorem st_small {s:Sg} (hs:StOk ms ps ls s.2 s.1):s.2.length ≤ 64 ∧ (flL s).length ≤ 7000 ∧ ∀ x ∈ flL s,0 ≤ x ∧ x < 256:=by
 have h64:=h.l64
 have h32:=h.n32
 have hq:=hs.qlen
 have hsl:=hs.slen
 have hdel:∀ q ∈ s.2,q.length ≤ 100 ∧ ∀ v ∈ q,0 ≤ v ∧ v < 256:=by
  intro q hq2
  obtain ⟨j,hj⟩:=List.getElem?_of_mem hq2
  have hjl:j < ls.length:=by have:=(List.getElem?_eq_some_iff.1 hj).1;omega
  have hl:=List.getElem?_eq_getElem hjl
  obtain ⟨k1,k2⟩:=hs.qok j _ q hl hj
  have hlk:=h.lok _ (List.mem_of_getElem? hl)
  have hd:=hlk.del
  obtain ⟨o0,o1,o2,o3⟩:=isOutB_iff.1 hlk.out
  have hm:=hms _ (mAt_mem h.pin (p:=ls[j].1.1.toNat) (by omega))
  have eo:outsAt ms ps ls[j].1.1 = li (mAt ms ps ls[j].1.1.toNat).2.2.2.2.1:=by
   rw [← outsAt_mAt,show ((ls[j].1.1.toNat:Nat):Int) = ls[j].1.1 by omega]
  have hk':ls[j].1.2.1.toNat < (outsAt ms ps ls[j].1.1).length:=by omega
  have hlen:(li (outAt ms ps ls[j].1).2.1).length ≤ 64:=by
   have e:outAt ms ps ls[j].1 = (outsAt ms ps ls[j].1.1)[ls[j].1.2.1.toNat]:=by
    simp only [outAt,List.getD_eq_getElem?_getD,List.getElem?_eq_getElem hk',Option.getD_some]
   have hmem:outAt ms ps ls[j].1 ∈ li (mAt ms ps ls[j].1.1.toNat).2.2.2.2.1:=by rw [e,← eo];exact List.getElem_mem hk'
   have:=hm.olens _ hmem
   omega
  exact ⟨by omega,fun v hv => by have:=k2 v hv;omega⟩
 have hfl:∀ (Q:List (List Int)),(∀ q ∈ Q,q.length ≤ 100) → Q.flatten.length ≤ 100 * Q.length:=by
  intro Q
  induction Q with
  | nil => simp
  | cons q Q ih =>
   intro hQ
   have h1:=hQ q (by simp)
   have h2:=ih fun x hx => hQ x (by simp [hx])
   simp only [List.flatten_cons,List.length_append,List.length_cons]
   omega
 have hfl2:=hfl s.2 fun q hq => (hdel q hq).1
 refine ⟨by omega,by unfold flL;rw [List.length_append];omega,fun x hx => ?_⟩
 unfold flL at hx
 rcases List.mem_append.1 hx with hx | hx
 ·obtain ⟨p,hp⟩:=List.getElem?_of_mem hx
  have hpl:p < ps.length:=by have:=(List.getElem?_eq_some_iff.1 hp).1;omega
  have:=hs.sok p hpl
  rw [List.getD_eq_getElem?_getD,hp,Option.getD_some] at this
  have hm:=hms _ (mAt_mem h.pin hpl)
  have:=hm.n1
  omega
 ·obtain ⟨q,hq2,hx⟩:=List.mem_flatten.1 hx
  exact (hdel q hq2).2 x hx
theorem st_inj {s t:Sg} (hs:StOk ms ps ls s.2 s.1) (ht:StOk ms ps ls t.2 t.1) (e:flL s = flL t):s = t:=by
 refine flL_inj (by rw [hs.slen,ht.slen]) ?_ e
 apply List.ext_getElem?
 intro j
 rw [List.getElem?_map,List.getElem?_map]
 by_cases hj:j < ls.length
 ·have h1:j < s.2.length:=by rw [hs.qlen];exact hj
  have h2:j < t.2.length:=by rw [ht.qlen];exact hj
  have e1:=(hs.qok j _ _ (List.getElem?_eq_getElem hj) (List.getElem?_eq_getElem h1)).1
  have e2:=(ht.qok j _ _ (List.getElem?_eq_getElem hj) (List.getElem?_eq_getElem h2)).1
  rw [List.getElem?_eq_getElem h1,List.getElem?_eq_getElem h2]
  simp only [Option.map_some]
  congr 1
  omega
 ·rw [List.getElem?_eq_none (by rw [hs.qlen];omega),List.getElem?_eq_none (by rw [ht.qlen];omega)]
theorem key_inj {s t:Sg} (hs:StOk ms ps ls s.2 s.1) (ht:StOk ms ps ls t.2 t.1) (e:kT (flL s) = kT (flL t)):s = t :=
 st_inj h hms hs ht (kT_inj (st_small h hms hs).2.2 (st_small h hms ht).2.2 e)
end
end Go.Proofs.Ytelcbakleaaneaa
end
section
namespace Go.Proofs.Ytelcbakleaaneaa
open Go Go.Proofs.Ytelcbakleaaneaa.VM
def tvI:Option Nat → Int | none => -1 | some i => (i:Int)
def tabV (N:Nat) (T:Nat → Option Nat):List (List FV):=vec N fun t => I (tvI (T t))
theorem tabV_len (N:Nat) (T:Nat → Option Nat):(tabV N T).length = N:=vec_len _ _
theorem tab_at {N:Nat} (T:Nat → Option Nat) {t:Nat} (h:t < N):fIdxC 1 (.arr (tabV N T)) (.int .i64 (t:Int)) = some (I (tvI (T t))) ∧ rIdx (tabV N T) (.int .i64 (t:Int)) = some t ∧ rGet (tabV N T) t 0 = some (.int .i64 (tvI (T t))) ∧
  ∀ i:Nat,rSet (tabV N T) t 0 [.int .i64 (i:Int)] = some (tabV N fun j => if j = t then some i else T j):=by
 have hg:(tabV N T)[t]? = some (I (tvI (T t))):=vec_get (g:=fun t => I (tvI (T t))) h
 refine ⟨idx_arr hg rfl,rIdx_at (by rw [tabV_len];exact h),by rw [rGet_at hg];rfl,fun i => ?_⟩
 rw [rSet_one hg]
 have:=vec_set (n:=N) (g:=fun t => I (tvI (T t))) (g':=fun j => I (tvI (if j = t then some i else T j))) (i:=t) (fun j hj => by simp [hj])
 simp only [if_true] at this
 exact congrArg some this
def hsh:List Int → Int → Int
 | [],h => h
 | v :: l,h => hsh l ((h * 31 + v + 1).tmod 1000003)
def hs0 (N:Nat) (v:List Int):Nat:=(hsh v 7).toNat % N
section
variable {N:Nat} (hN:1 ≤ N ∧ N ≤ 1000000)
include hN
theorem slot_L0 {v:List Int} (hv:∀ x ∈ v,0 ≤ x ∧ x < 256) (hvl:v.length ≤ 1000000) (T:Nat → Option Nat) (x1:FV):∀ (t:List Int) (m:Nat) (h:Int),v.drop m = t → 0 ≤ h ∧ h < 1000003 →
  ref02_slot.L0 (.arr (tabV N T)) x1 (.arr (v.map I)) (.int .i64 h) (.int .i64 (m:Int)) = ref02_slot.L1 (.arr (tabV N T)) x1 (.arr (v.map I)) (.int .i64 (((hsh t h).toNat % N:Nat):Int)):=by
 intro t
 induction t with
 | nil =>
  intro m h hd hh
  have e:h.tmod (N:Int) = ((h.toNat % N:Nat):Int):=by
   rw [Int.ofNat_tmod,show ((h.toNat:Nat):Int) = h by omega]
  rw [ref02_slot.L0_eq]
  simp only [fLen_arr,List.length_map,bindO_s,fBin_lss,fCond_b,decide_eq_true_eq,Int.ofNat_lt,drop_nil hd,if_false,tabV_len,fBin_rem,show ¬ ((N:Int) = 0) by omega,e,hsh]
 | cons x t ih =>
  intro m h hd hh
  obtain ⟨hm,hn,hs⟩:=drop_cons hd
  have hx:=hv x (List.mem_of_getElem? hn)
  have w:IntKind.i64.wrap ((m:Int) + 1) = ((m + 1:Nat):Int):=wrap64 (by omega) (by omega)
  have w1:IntKind.i64.wrap (h * 31) = h * 31:=wrap64 (by omega) (by omega)
  have w2:IntKind.i64.wrap (h * 31 + x) = h * 31 + x:=wrap64 (by omega) (by omega)
  have w3:IntKind.i64.wrap (h * 31 + x + 1) = h * 31 + x + 1:=wrap64 (by omega) (by omega)
  have hg:(v.map I)[m]? = some (I x):=by rw [List.getElem?_map,hn];rfl
  have ih':=ih (m + 1) ((h * 31 + x + 1).tmod 1000003) hs ⟨Int.tmod_nonneg _ (by omega),Int.tmod_lt_of_pos _ (by omega)⟩
  rw [ref02_slot.L0_eq]
  simp only [fLen_arr,List.length_map,bindO_s,fBin_lss,fCond_b,decide_eq_true_eq,Int.ofNat_lt,hm,if_true,fBin_mul,w1,idx_arr hg (I_len x),I_zero,fBin_add,w2,w3,fBin_rem,show ¬ ((1000003:Int) = 0) by decide,if_false,w]
  exact ih'
def StopAt (N:Nat) (T:Nat → Option Nat) (keys:List (List Int)) (v:List Int) (j:Nat):Prop:=∀ i,T ((hs0 N v + j) % N) = some i → keys[i]? = some v
theorem slot_L1 {T:Nat → Option Nat} {keys:List (List Int)} {v:List Int} (hv:v.length ≤ 1000000) (hk:∀ q ∈ keys,q.length ≤ 1000000) (hT:∀ t,t < N → ∀ i,T t = some i → i < keys.length):∀ (d j j0:Nat),j0 - j = d → j ≤ j0 → StopAt N T keys v j0 →
  ∃ J,j ≤ J ∧ J ≤ j0 ∧ StopAt N T keys v J ∧ (∀ i,j ≤ i → i < J → T ((hs0 N v + i) % N) ≠ none) ∧ ref02_slot.L1 (.arr (tabV N T)) (.arr (keys.map LL)) (.arr (v.map I)) (.int .i64 (((hs0 N v + j) % N:Nat):Int)) = some (.int .i64 (((hs0 N v + J) % N:Nat):Int)):=by
 intro d
 have stop:∀ j j0,j ≤ j0 → StopAt N T keys v j → ∃ J,j ≤ J ∧ J ≤ j0 ∧ StopAt N T keys v J ∧ (∀ i,j ≤ i → i < J → T ((hs0 N v + i) % N) ≠ none) ∧ ref02_slot.L1 (.arr (tabV N T)) (.arr (keys.map LL)) (.arr (v.map I)) (.int .i64 (((hs0 N v + j) % N:Nat):Int)) = some (.int .i64 (((hs0 N v + J) % N:Nat):Int)):=by
  intro j j0 hj hst
  have hp:(hs0 N v + j) % N < N:=Nat.mod_lt _ (by omega)
  refine ⟨j,Nat.le_refl _,hj,hst,fun i h1 h2 => by omega,?_⟩
  obtain ⟨a1,_,_,_⟩:=tab_at T hp
  rw [ref02_slot.L1_eq]
  simp only [a1,bindO_s,I_zero,fBin_geq,fCond_b,decide_eq_true_eq]
  cases hc:T ((hs0 N v + j) % N) with
  | none => simp [tvI]
  | some i =>
   have hkv:=hst i hc
   have hg:(keys.map LL)[i]? = some (LL v):=by rw [List.getElem?_map,hkv];rfl
   have z:=sameI_sl (a:=some v) (b:=some v) (by simp;omega)
   simp only [tvI,show (0:Int) ≤ (i:Int) by omega,if_true,idx_arr hg (LL_len v),LL_zero,bindO_s]
   rw [show ref02_sameInts (.arr (v.map I)) (.arr (v.map I)) = _ from z]
   simp
 induction d with
 | zero =>
  intro j j0 hd hj hst
  have:j = j0:=by omega
  subst this
  exact stop j j (Nat.le_refl _) hst
 | succ d ih =>
  intro j j0 hd hj hst
  by_cases hsj:StopAt N T keys v j
  ·exact stop j j0 hj hsj
  ·have hp:(hs0 N v + j) % N < N:=Nat.mod_lt _ (by omega)
   obtain ⟨a1,_,_,_⟩:=tab_at T hp
   have:∃ i,T ((hs0 N v + j) % N) = some i ∧ keys[i]? ≠ some v:=by
    unfold StopAt at hsj
    simpa using hsj
   obtain ⟨i,hc,hne⟩:=this
   have hi:=hT _ hp i hc
   have hgk:keys[i]? = some keys[i]:=List.getElem?_eq_getElem hi
   have hg:(keys.map LL)[i]? = some (LL keys[i]):=by rw [List.getElem?_map,hgk];rfl
   have z:=sameI_sl (a:=some keys[i]) (b:=some v) (by have:=hk _ (List.mem_of_getElem? hgk);simp only [li_some];omega)
   have hnv:¬ (keys[i] = v):=fun e => hne (by rw [hgk,e])
   obtain ⟨J,k1,k2,k3,k4,k5⟩:=ih (j + 1) j0 (by omega) (by omega) hst
   refine ⟨J,by omega,k2,k3,fun q h1 h2 => ?_,?_⟩
   ·by_cases e:q = j
    ·subst e;rw [hc];simp
    ·exact k4 q (by omega) h2
   ·have w:IntKind.i64.wrap ((((hs0 N v + j) % N:Nat):Int) + 1) = (((hs0 N v + j) % N + 1:Nat):Int):=wrap64 (by omega) (by omega)
    have e:((((hs0 N v + j) % N + 1:Nat):Int)).tmod (N:Int) = (((hs0 N v + (j + 1)) % N:Nat):Int):=by
     rw [← Int.ofNat_tmod,Nat.mod_add_mod,Nat.add_assoc]
    rw [ref02_slot.L1_eq]
    simp only [a1,bindO_s,I_zero,fBin_geq,fCond_b,decide_eq_true_eq,hc,tvI,show (0:Int) ≤ (i:Int) by omega,if_true,idx_arr hg (LL_len _),LL_zero]
    rw [show ref02_sameInts (.arr (keys[i].map I)) (.arr (v.map I)) = _ from z]
    simp only [bindO_s,fUn_not,li_some,hnv,decide_false,Bool.not_false,fCond_b,if_true]
    rw [ref02_slot.L2_eq]
    simp only [fBin_add,w,bindO_s,fLen_arr,tabV_len,fBin_rem,show ¬ ((N:Int) = 0) by omega,if_false,e]
    exact k5
structure Tab (N:Nat) (T:Nat → Option Nat) (keys:List (List Int)):Prop where
 lt:∀ t,t < N → ∀ i,T t = some i → i < keys.length
 inj:∀ t,t < N → ∀ u,u < N → ∀ i,T t = some i → T u = some i → t = u
 path:∀ i v,keys[i]? = some v → ∃ j,T ((hs0 N v + j) % N) = some i ∧ ∀ q,q < j → T ((hs0 N v + q) % N) ≠ none
theorem Tab.free {T:Nat → Option Nat} {keys:List (List Int)} (h:Tab N T keys) (hk:keys.length < N):∃ t,t < N ∧ T t = none:=by
 apply Classical.byContradiction
 intro hno
 have hall:∀ t,t < N → ∃ i,T t = some i:=fun t ht => by
  cases hc:T t with
  | none => exact absurd ⟨t,ht,hc⟩ hno
  | some i => exact ⟨i,rfl⟩
 have hnd:((List.range N).map fun t => (T t).getD 0).Nodup:=by
  refine nodup_on List.nodup_range fun a ha b hb e => ?_
  obtain ⟨i,hi⟩:=hall a (List.mem_range.1 ha)
  obtain ⟨k,hk2⟩:=hall b (List.mem_range.1 hb)
  rw [hi,hk2] at e
  simp only [Option.getD_some] at e
  subst e
  exact h.inj a (List.mem_range.1 ha) b (List.mem_range.1 hb) i hi hk2
 have:=pigD keys.length _ hnd fun x hx => by
  obtain ⟨t,ht,rfl⟩:=List.mem_map.1 hx
  obtain ⟨i,hi⟩:=hall t (List.mem_range.1 ht)
  rw [hi]
  exact h.lt t (List.mem_range.1 ht) i hi
 simp at this
 omega
theorem slot_ok {T:Nat → Option Nat} {keys:List (List Int)} (h:Tab N T keys) (hlt:keys.length < N) (hnd:keys.Nodup) {v:List Int} (hv:∀ x ∈ v,0 ≤ x ∧ x < 256) (hvl:v.length ≤ 1000000) (hk:∀ q ∈ keys,q.length ≤ 1000000) :
  ∃ t,t < N ∧ ref02_slot (.arr (tabV N T)) (.arr (keys.map LL)) (.arr (v.map I)) = some (.int .i64 (t:Int)) ∧ (∀ i,keys[i]? = some v → T t = some i) ∧ (v ∉ keys → T t = none ∧ Tab N (fun u => if u = t then some keys.length else T u) (keys ++ [v])):=by
 have e0:ref02_slot (.arr (tabV N T)) (.arr (keys.map LL)) (.arr (v.map I)) = ref02_slot.L1 (.arr (tabV N T)) (.arr (keys.map LL)) (.arr (v.map I)) (.int .i64 (((hs0 N v + 0) % N:Nat):Int)):=by
  rw [ref02_slot.eq]
  refine Eq.trans (slot_L0 hN hv hvl T _ v 0 7 rfl (by decide)) ?_
  rw [Nat.add_zero]
  unfold hs0
  rw [Nat.mod_mod]
 have hst0:∃ j0,StopAt N T keys v j0:=by
  obtain ⟨t,ht,hn⟩:=h.free hN hlt
  refine ⟨t + N - hs0 N v,fun i hi => ?_⟩
  have hs:hs0 N v < N:=Nat.mod_lt _ (by omega)
  rw [show hs0 N v + (t + N - hs0 N v) = t + N by omega,Nat.add_mod_right,Nat.mod_eq_of_lt ht,hn] at hi
  cases hi
 obtain ⟨j0,hst⟩:=hst0
 obtain ⟨J,k1,k2,k3,k4,k5⟩:=slot_L1 hN hvl hk h.lt _ 0 j0 rfl (Nat.zero_le _) hst
 have hp:(hs0 N v + J) % N < N:=Nat.mod_lt _ (by omega)
 refine ⟨(hs0 N v + J) % N,hp,e0.trans k5,fun i hi => ?_,fun hnv => ?_⟩
 ·obtain ⟨j,q1,q2⟩:=h.path i v hi
  have hsj:StopAt N T keys v j:=fun i2 h2 => by rw [q1] at h2;cases h2;exact hi
  cases hc:T ((hs0 N v + J) % N) with
  | none =>
   exfalso
   rcases Nat.lt_trichotomy J j with g | g | g
   ·exact q2 J g hc
   ·subst g;rw [q1] at hc;cases hc
   ·obtain ⟨J2,r1,r2,r3,r4,r5⟩:=slot_L1 hN hvl hk h.lt _ 0 j rfl (Nat.zero_le _) hsj
    rw [r5] at k5
    have e:=Option.some.inj k5
    simp only [FV.int.injEq,true_and] at e
    have e2:(hs0 N v + J2) % N = (hs0 N v + J) % N:=by omega
    rw [← e2] at hc
    rcases Nat.lt_or_ge J2 j with g2 | g2
    ·exact q2 J2 g2 hc
    ·have:J2 = j:=by omega
     subst this;rw [q1] at hc;cases hc
  | some i2 =>
   have:=k3 i2 hc
   obtain ⟨hi1,hi2⟩:=List.getElem?_eq_some_iff.1 hi
   obtain ⟨hj1,hj2⟩:=List.getElem?_eq_some_iff.1 this
   have:i2 = i:=(List.getElem_inj hnd).1 (hj2.trans hi2.symm)
   rw [this]
 ·have hc:T ((hs0 N v + J) % N) = none:=by
   cases hc:T ((hs0 N v + J) % N) with
   | none => rfl
   | some i => exact absurd (List.mem_of_getElem? (k3 i hc)) hnv
  have hne:∀ u i,T u = some i → u ≠ (hs0 N v + J) % N:=fun u i hu e => by rw [e,hc] at hu;cases hu
  refine ⟨hc,⟨fun t ht i hi => ?_,fun t ht u hu i h1 h2 => ?_,fun i w hi => ?_⟩⟩
  ·simp only [List.length_append,List.length_singleton]
   split at hi
   ·cases hi;omega
   ·have:=h.lt t ht i hi;omega
  ·split at h1
   ·rename_i e1
    cases h1
    split at h2
    ·rename_i e2;rw [e1,e2]
    ·exact absurd (h.lt u hu _ h2) (Nat.lt_irrefl _)
   ·split at h2
    ·cases h2;exact absurd (h.lt t ht _ h1) (Nat.lt_irrefl _)
    ·exact h.inj t ht u hu i h1 h2
  ·rw [List.getElem?_append] at hi
   split at hi
   ·obtain ⟨j,q1,q2⟩:=h.path i w hi
    refine ⟨j,?_,fun q hq => ?_⟩
    ·simp only [if_neg (hne _ _ q1)];exact q1
    ·show (if _ = _ then some keys.length else _) ≠ none
     split
     ·simp
     ·exact q2 q hq
   ·rename_i hge
    have:i = keys.length:=by
     have:=(List.getElem?_eq_some_iff.1 hi).1
     simp at this;omega
    subst this
    simp at hi
    subst hi
    refine ⟨J,by simp,fun q hq => ?_⟩
    show (if _ = _ then some keys.length else _) ≠ none
    split
    ·simp
    ·exact k4 q (Nat.zero_le _) hq
end
end Go.Proofs.Ytelcbakleaaneaa
end
section
namespace Go.Proofs.Ytelcbakleaaneaa
open Go Go.Proofs.Ytelcbakleaaneaa.VM
section
variable {α:Type} [DecidableEq α]
def addS (L:List α) (t:α):List α:=if t ∈ L then L else L ++ [t]
def expS (L:List α):List α → List α
 | [] => L
 | t :: ts => expS (addS L t) ts
theorem addS_pre (L:List α) (t:α):∃ M,addS L t = L ++ M:=by
 unfold addS
 split
 ·exact ⟨[],by simp⟩
 ·exact ⟨[t],rfl⟩
theorem addS_mem (L:List α) (t:α):t ∈ addS L t:=by
 unfold addS
 split
 ·assumption
 ·simp
theorem addS_nd {L:List α} (h:L.Nodup) (t:α):(addS L t).Nodup:=by
 unfold addS
 split
 ·exact h
 ·rename_i g
  rw [List.nodup_append]
  exact ⟨h,by simp,fun a ha b hb e => g (by simp at hb;rw [← hb,← e];exact ha)⟩
theorem addS_all {Pr:α → Prop} {L:List α} (h:∀ s ∈ L,Pr s) {t:α} (ht:Pr t):∀ s ∈ addS L t,Pr s:=by
 unfold addS
 split
 ·exact h
 ·intro s hs
  rcases List.mem_append.1 hs with g | g
  ·exact h s g
  ·simp at g;rw [g];exact ht
theorem expS_pre:∀ (ts L:List α),∃ M,expS L ts = L ++ M
 | [],L => ⟨[],by simp [expS]⟩
 | t :: ts,L => by
  obtain ⟨M,h⟩:=addS_pre L t
  obtain ⟨M',h'⟩:=expS_pre ts (addS L t)
  exact ⟨M ++ M',by rw [expS,h',h,List.append_assoc]⟩
theorem expS_mem:∀ (ts L:List α),∀ t ∈ ts,t ∈ expS L ts
 | t :: ts,L,x,hx => by
  rw [expS]
  rcases List.mem_cons.1 hx with rfl | hx
  ·obtain ⟨M,h⟩:=expS_pre ts (addS L x)
   rw [h]
   exact List.mem_append_left _ (addS_mem L x)
  ·exact expS_mem ts _ x hx
theorem expS_nd:∀ (ts:List α) {L:List α},L.Nodup → (expS L ts).Nodup
 | [],_,h => h
 | t :: ts,_,h => expS_nd ts (addS_nd h t)
theorem expS_all {Pr:α → Prop}:∀ (ts:List α) {L:List α},(∀ s ∈ L,Pr s) → (∀ t ∈ ts,Pr t) → ∀ s ∈ expS L ts,Pr s
 | [],_,h,_ => h
 | t :: ts,_,h,ht => expS_all ts (addS_all h (ht t (by simp))) fun x hx => ht x (by simp [hx])
theorem expS_len (ts L:List α):L.length ≤ (expS L ts).length:=by
 obtain ⟨M,h⟩:=expS_pre ts L
 rw [h];simp
variable (p:Nat) (nx:α → Nat → α)
def rnd (L:List α) (s:α):List α:=expS L ((List.range' 0 p).map (nx s))
def bfsS:Nat → Nat → List α → Option (List α)
 | 0,_,L => some L
 | f + 1,i,L => match L[i]? with
  | none => some L
  | some s => if 4096 < (rnd p nx L s).length then none else bfsS f (i + 1) (rnd p nx L s)
variable {p nx}
structure Met (p:Nat) (nx:α → Nat → α) (Pr:α → Prop) (i:Nat) (L:List α):Prop where
 nd:L.Nodup
 all:∀ s ∈ L,Pr s
 le:L.length ≤ 4096
 cl:∀ s ∈ L.take i,∀ k,k < p → nx s k ∈ L
theorem Met.step {Pr:α → Prop} (hPr:∀ s,Pr s → ∀ k,k < p → Pr (nx s k)) {i:Nat} {L:List α} (h:Met p nx Pr i L) {s:α} (hs:L[i]? = some s) (hl:(rnd p nx L s).length ≤ 4096):Met p nx Pr (i + 1) (rnd p nx L s):=by
 obtain ⟨M,hM⟩:=expS_pre ((List.range' 0 p).map (nx s)) L
 have hM':rnd p nx L s = L ++ M:=hM
 have hi:=(List.getElem?_eq_some_iff.1 hs).1
 refine ⟨expS_nd _ h.nd,expS_all _ h.all fun t ht => ?_,hl,fun u hu k hk => ?_⟩
 ·obtain ⟨k,hk,rfl⟩:=List.mem_map.1 ht
  exact hPr s (h.all s (List.mem_of_getElem? hs)) k (by simp [List.mem_range'] at hk;omega)
 ·rw [hM',List.take_append_of_le_length (by omega),List.take_add_one,hs] at hu
  rcases List.mem_append.1 hu with g | g
  ·rw [hM'];exact List.mem_append_left _ (h.cl u g k hk)
  ·simp at g
   subst g
   exact expS_mem _ _ _ (List.mem_map_of_mem (by simp [List.mem_range'];omega))
theorem bfsS_ok {Pr:α → Prop} (hPr:∀ s,Pr s → ∀ k,k < p → Pr (nx s k)):∀ (f i:Nat) (L:List α),4097 ≤ f + i → i ≤ L.length → Met p nx Pr i L → ∀ L',bfsS p nx f i L = some L' → Met p nx Pr L'.length L' ∧ ∃ M,L' = L ++ M
 | 0,i,L,hf,hi,h,L',e => by have:=h.le;omega
 | f + 1,i,L,hf,hi,h,L',e => by
  unfold bfsS at e
  cases hc:L[i]? with
  | none =>
   rw [hc] at e
   cases e
   have:=List.getElem?_eq_none_iff.1 hc
   have e2:i = L.length:=by omega
   subst e2
   exact ⟨h,[],by simp⟩
  | some s =>
   rw [hc] at e
   dsimp only at e
   by_cases g:4096 < (rnd p nx L s).length
   ·rw [if_pos g] at e;cases e
   ·rw [if_neg g] at e
    have hi':=(List.getElem?_eq_some_iff.1 hc).1
    obtain ⟨M,hM⟩:=expS_pre ((List.range' 0 p).map (nx s)) L
    have hM':rnd p nx L s = L ++ M:=hM
    obtain ⟨h1,M',h2⟩:=bfsS_ok hPr f (i + 1) _ (by omega) (by have:=expS_len ((List.range' 0 p).map (nx s)) L;unfold rnd;omega) (h.step hPr hc (by omega)) L' e
    exact ⟨h1,M ++ M',by rw [h2,hM',List.append_assoc]⟩
def rowK (nx:α → Nat → α) (sy:α → Nat → List Int) (L:List α) (s:α) (k:Nat):TRow:=((pos (nx s k) L:Int),some (sy s k),())
def accR (p:Nat) (nx:α → Nat → α) (sy:α → Nat → List Int) (L M:List α):List TRow:=M.flatMap fun s => (List.range' 0 p).map (rowK nx sy L s)
variable {sy:α → Nat → List Int}
theorem rowK_pre {L M:List α} {s:α} {k:Nat} (h:nx s k ∈ L):rowK nx sy (L ++ M) s k = rowK nx sy L s k:=by
 unfold rowK;rw [pos_app M h]
theorem accR_pre {L M N:List α} (h:∀ s ∈ N,∀ k,k < p → nx s k ∈ L):accR p nx sy (L ++ M) N = accR p nx sy L N:=by
 unfold accR
 induction N with
 | nil => rfl
 | cons s N ih =>
  rw [List.flatMap_cons,List.flatMap_cons,ih fun u hu => h u (by simp [hu])]
  congr 1
  refine List.map_congr_left fun k hk => rowK_pre (h s (by simp) k (by simp [List.mem_range'] at hk;omega))
theorem accR_len (L N:List α):(accR p nx sy L N).length = N.length * p:=by
 unfold accR
 induction N with
 | nil => simp
 | cons s N ih => rw [List.flatMap_cons,List.length_append,ih];simp [Nat.succ_mul,Nat.add_comm]
theorem accR_next {Pr:α → Prop} {i:Nat} {L:List α} (h:Met p nx Pr i L) {s:α} (hs:L[i]? = some s) :
  accR p nx sy (rnd p nx L s) ((rnd p nx L s).take (i + 1)) = accR p nx sy L (L.take i) ++ (List.range' 0 p).map (rowK nx sy (rnd p nx L s) s):=by
 obtain ⟨M,hM⟩:=expS_pre ((List.range' 0 p).map (nx s)) L
 have hM':rnd p nx L s = L ++ M:=hM
 have hi:=(List.getElem?_eq_some_iff.1 hs).1
 rw [hM',List.take_append_of_le_length (by omega),List.take_add_one,hs]
 rw [← accR_pre (M:=M) h.cl]
 simp [accR]
theorem accR_get (L:List α):∀ (N:List α) (a k:Nat) (s:α),N[a]? = some s → k < p → (accR p nx sy L N)[a * p + k]? = some (rowK nx sy L s k)
 | [],a,k,s,h,_ => by simp at h
 | t :: N,0,k,s,h,hk => by
  simp at h
  subst h
  unfold accR
  rw [List.flatMap_cons,List.getElem?_append_left (by simp;omega),List.getElem?_map,List.getElem?_range' (by omega)]
  simp
 | t :: N,a + 1,k,s,h,hk => by
  have ih:=accR_get L N a k s (by simpa using h) hk
  unfold accR at ih ⊢
  rw [List.flatMap_cons,List.getElem?_append_right (by simp [Nat.succ_mul];omega)]
  simp only [List.length_map,List.length_range']
  rw [show (a + 1) * p + k - p = a * p + k by rw [Nat.succ_mul];omega]
  exact ih
end
end Go.Proofs.Ytelcbakleaaneaa
end
section
namespace Go.Proofs.Ytelcbakleaaneaa
open Go Go.Proofs.Ytelcbakleaaneaa.VM
def ltr (ms:List TMach) (ps:List TPart) (is:List TPin) (k:Nat):List Int:=(digs (is.map (inAt ms ps)) k).1
def solG (ms:List TMach) (ps:List TPart) (ls:List TLink) (is:List TPin) (o:List Nat) (s:Sg) (k:Nat):Nat → TRow:=solW ms ps is (ltr ms ps is k) ls s.2 s.1 o
def nxG (ms:List TMach) (ps:List TPart) (ls:List TLink) (is:List TPin) (o:List Nat) (s:Sg) (k:Nat):Sg:=(nextS ps.length (solG ms ps ls is o s k),nextQ (solG ms ps ls is o s k) ls s.2)
def syG (ms:List TMach) (ps:List TPart) (ls:List TLink) (is os:List TPin) (o:List Nat) (s:Sg) (k:Nat):List Int:=shown (solG ms ps ls is o s k) os
def PrG (ms:List TMach) (ps:List TPart) (ls:List TLink) (s:Sg):Prop:=StOk ms ps ls s.2 s.1
structure FlN (ms:List TMach) (ps:List TPart) (ls:List TLink) (is os:List TPin) (o:List Nat):Prop where
 ok:OkN ms ps ls is os
 mok:OkMs ms
 ord:Ord (EE ls) ps.length o
 i8:is.length ≤ 8
 o8:os.length ≤ 8
 p256:prodL (is.map (inAt ms ps)) ≤ 256
theorem inAt_lens {ms:List TMach} {ps:List TPart} {ls:List TLink} {is os:List TPin} (h:OkN ms ps ls is os) (hms:OkMs ms):Lens (is.map (inAt ms ps)):=by
 intro q hq
 obtain ⟨p,hp,rfl⟩:=List.mem_map.1 hq
 have h1:=isInB_iff.1 (h.iok p hp)
 have hm:=hms _ (mAt_mem h.pin (p:=p.1.toNat) (by omega))
 have e:insAt ms ps p.1 = li (mAt ms ps p.1.toNat).2.2.2.1:=by
  rw [← insAt_mAt,show ((p.1.toNat:Nat):Int) = p.1 by omega]
 have hl:=hm.lens
 have hi:p.2.1.toNat < (insAt ms ps p.1).length:=by omega
 refine hl _ ?_
 rw [← e]
 unfold inAt
 rw [List.getD_eq_getElem?_getD,List.getElem?_eq_getElem hi,Option.getD_some]
 exact List.getElem_mem hi
theorem outAt_lens {ms:List TMach} {ps:List TPart} {ls:List TLink} {is os:List TPin} (h:OkN ms ps ls is os) (hms:OkMs ms):Lens (os.map (outAt ms ps)):=by
 intro q hq
 obtain ⟨p,hp,rfl⟩:=List.mem_map.1 hq
 have h1:=isOutB_iff.1 (h.ook p hp)
 have hm:=hms _ (mAt_mem h.pin (p:=p.1.toNat) (by omega))
 have e:outsAt ms ps p.1 = li (mAt ms ps p.1.toNat).2.2.2.2.1:=by
  rw [← outsAt_mAt,show ((p.1.toNat:Nat):Int) = p.1 by omega]
 have hl:=hm.olens
 have hi:p.2.1.toNat < (outsAt ms ps p.1).length:=by omega
 refine hl _ ?_
 rw [← e]
 unfold outAt
 rw [List.getD_eq_getElem?_getD,List.getElem?_eq_getElem hi,Option.getD_some]
 exact List.getElem_mem hi
theorem FlN.pr {ms:List TMach} {ps:List TPart} {ls:List TLink} {is os:List TPin} {o:List Nat} (h:FlN ms ps ls is os o):∀ s,PrG ms ps ls s → ∀ k,k < prodL (is.map (inAt ms ps)) → PrG ms ps ls (nxG ms ps ls is o s k):=fun s hs k _ =>
 next_ok h.ok h.mok (digs_fit _ _ (inAt_lens h.ok h.mok)) hs (solW_eq h.ok h.ord)
def errF (c:Int):FV:=.tup [.agg [.str [],.nilS,.int .i64 0,.nilS,.nilS,.nilS],.int .i64 c]
section
variable {oms:Option (List TMach)} {ops:Option (List TPart)} {ol:Option (List TLink)} {oi oo:Option (List TPin)} {o:List Nat} (h:FlN (li oms) (li ops) (li ol) (li oi) (li oo) o)
include h
theorem move_g {s:Sg} (hs:PrG (li oms) (li ops) (li ol) s) (k:Nat) (x0:FV) :
  ref02_move (sl MC oms) (.agg [x0,sl PT ops,sl LK ol,sl PN oi,sl PN oo]) (.arr (o.map numR)) (.agg (SgV s)) (.arr ((ltr (li oms) (li ops) (li oi) k).map I)) =
   some (.tup [.agg (SgV (nxG (li oms) (li ops) (li ol) (li oi) o s k)),.arr ((syG (li oms) (li ops) (li ol) (li oi) (li oo) o s k).map I)]):=by
 have hi:=h.i8
 have ho:=h.o8
 exact move_ok (ox:=some (ltr (li oms) (li ops) (li oi) k)) h.ok h.mok (digs_fit _ _ (inAt_lens h.ok h.mok)) hs (by omega) (by omega) h.ord x0
theorem parts_g {k:Nat} (hk:k < 1000000):ref02_Parts (.arr (((li oi).map (inAt (li oms) (li ops))).map P)) (.int .i64 (k:Int)) = some (.arr ((ltr (li oms) (li ops) (li oi) k).map I)):=by
 have hi:=h.i8
 exact parts_ok (o:=some ((li oi).map (inAt (li oms) (li ops)))) (by simp only [li_some,List.length_map];omega) (inAt_lens h.ok h.mok) (by omega)
theorem rf_L3 {s:Sg} {i:Nat} (hi:i ≤ 4096) (x6 x7 x8 x9 x19:FV) (r14 r15 r16 r17:List (List FV)):∀ (d k:Nat) (L:List Sg) (T:Nat → Option Nat) (A:List TRow),prodL ((li oi).map (inAt (li oms) (li ops))) - k = d → k ≤ prodL ((li oi).map (inAt (li oms) (li ops))) →
  L.Nodup → (∀ s ∈ L,PrG (li oms) (li ops) (li ol) s) → L.length ≤ 4096 → L[i]? = some s → Tab 16384 T (L.map flL) → A.length + d ≤ 20000000 →
  (4096 < (expS L ((List.range' k d).map (nxG (li oms) (li ops) (li ol) (li oi) o s))).length → ref02_Flat.L3 (.arr (((li oi).map (inAt (li oms) (li ops))).map P)) (.int .i64 (prodL ((li oi).map (inAt (li oms) (li ops))):Int)) (.arr (o.map numR)) (.int .i64 (i:Int)) (.int .i64 (k:Int)) (sl MC oms) x6 x7 x8 x9 (sl PT ops) (sl LK ol) (sl PN oi) (sl PN oo) r14 r15 r16 r17 (tabV 16384 T) x19 (L.map SgV) ((L.map flL).map LL) (A.map fun r => I r.1) (A.map fun r => [sl I r.2.1]) = some (errF 26)) ∧
  ((expS L ((List.range' k d).map (nxG (li oms) (li ops) (li ol) (li oi) o s))).length ≤ 4096 → ∃ T',Tab 16384 T' ((expS L ((List.range' k d).map (nxG (li oms) (li ops) (li ol) (li oi) o s))).map flL) ∧ ref02_Flat.L3 (.arr (((li oi).map (inAt (li oms) (li ops))).map P)) (.int .i64 (prodL ((li oi).map (inAt (li oms) (li ops))):Int)) (.arr (o.map numR)) (.int .i64 (i:Int)) (.int .i64 (k:Int)) (sl MC oms) x6 x7 x8 x9 (sl PT ops) (sl LK ol) (sl PN oi) (sl PN oo) r14 r15 r16 r17 (tabV 16384 T) x19 (L.map SgV) ((L.map flL).map LL) (A.map fun r => I r.1) (A.map fun r => [sl I r.2.1]) =
   ref02_Flat.L2 (.arr (((li oi).map (inAt (li oms) (li ops))).map P)) (.int .i64 (prodL ((li oi).map (inAt (li oms) (li ops))):Int)) (.arr (o.map numR)) (.int .i64 ((i + 1:Nat):Int)) (sl MC oms) x6 x7 x8 x9 (sl PT ops) (sl LK ol) (sl PN oi) (sl PN oo) r14 r15 r16 r17 (tabV 16384 T') x19 ((A ++ (List.range' k d).map (rowK (nxG (li oms) (li ops) (li ol) (li oi) o) (syG (li oms) (li ops) (li ol) (li oi) (li oo) o) (expS L ((List.range' k d).map (nxG (li oms) (li ops) (li ol) (li oi) o s))) s)).map fun r => I r.1) ((A ++ (List.range' k d).map (rowK (nxG (li oms) (li ops) (li ol) (li oi) o) (syG (li oms) (li ops) (li ol) (li oi) (li oo) o) (expS L ((List.range' k d).map (nxG (li oms) (li ops) (li ol) (li oi) o s))) s)).map fun r => [sl I r.2.1])
    ((expS L ((List.range' k d).map (nxG (li oms) (li ops) (li ol) (li oi) o s))).map SgV) (((expS L ((List.range' k d).map (nxG (li oms) (li ops) (li ol) (li oi) o s))).map flL).map LL)):=by
 intro d
 have hp256:=h.p256
 induction d with
 | zero =>
  intro k L T A hd hk hnd hall hle hs hT hA
  have w:IntKind.i64.wrap ((i:Int) + 1) = ((i + 1:Nat):Int):=wrap64 (by omega) (by omega)
  refine ⟨fun g => by simp [expS] at g;omega,fun _ => ⟨T,by simpa [expS] using hT,?_⟩⟩
  rw [ref02_Flat.L3_eq]
  simp only [bindO_s,fBin_lss,fCond_b,decide_eq_true_eq,show ¬ ((k:Int) < (prodL ((li oi).map (inAt (li oms) (li ops))):Int)) by omega,if_false,fBin_add,w]
  simp [expS]
 | succ d ih =>
  intro k L T A hd hk hnd hall hle hs hT hA
  have hk':k < prodL ((li oi).map (inAt (li oms) (li ops))):=by omega
  have hps:=hall s (List.mem_of_getElem? hs)
  have hpt:=h.pr s hps k hk'
  have hsm:=st_small h.ok h.mok hpt
  have hi2:=(List.getElem?_eq_some_iff.1 hs).1
  have hgS:(L.map SgV)[i]? = some (SgV s):=by rw [List.getElem?_map,hs];rfl
  generalize ht:nxG (li oms) (li ops) (li ol) (li oi) o s k = t at hpt hsm
  have hmv:=move_g h hps k x9
  rw [ht] at hmv
  have hfl:=flat_ok (s:=t) (by omega) (by omega)
  have hkn:(L.map flL).Nodup:=nodup_on hnd fun a ha b hb e => st_inj h.ok h.mok (hall a ha) (hall b hb) e
  obtain ⟨u,u1,u2,u3,u4⟩:=slot_ok (N:=16384) (by decide) hT (by simp;omega) hkn hsm.2.2 (by omega) (fun q hq => by
   obtain ⟨y,hy,rfl⟩:=List.mem_map.1 hq
   have:=st_small h.ok h.mok (hall y hy)
   omega)
  obtain ⟨_,t2,t3,t4⟩:=tab_at T u1
  have w:IntKind.i64.wrap ((k:Int) + 1) = ((k + 1:Nat):Int):=wrap64 (by omega) (by omega)
  have hexp:expS L ((List.range' k (d + 1)).map (nxG (li oms) (li ops) (li ol) (li oi) o s)) = expS (addS L t) ((List.range' (k + 1) d).map (nxG (li oms) (li ops) (li ol) (li oi) o s)):=by
   rw [List.range'_succ,List.map_cons,expS,ht]
  have l4:∀ (T2:Nat → Option Nat) (L2:List Sg) (q:Nat),T2 u = some q → L2.length ≤ 4096 → ref02_Flat.L4 (.arr (((li oi).map (inAt (li oms) (li ops))).map P)) (.int .i64 (prodL ((li oi).map (inAt (li oms) (li ops))):Int)) (.arr (o.map numR)) (.int .i64 (i:Int)) (.int .i64 (k:Int)) (.arr ((syG (li oms) (li ops) (li ol) (li oi) (li oo) o s k).map I)) (.int .i64 (u:Int)) (sl MC oms) x6 x7 x8 x9 (sl PT ops) (sl LK ol) (sl PN oi) (sl PN oo) r14 r15 r16 r17 (tabV 16384 T2) x19 (L2.map SgV) ((L2.map flL).map LL) (A.map fun r => I r.1) (A.map fun r => [sl I r.2.1]) =
    ref02_Flat.L3 (.arr (((li oi).map (inAt (li oms) (li ops))).map P)) (.int .i64 (prodL ((li oi).map (inAt (li oms) (li ops))):Int)) (.arr (o.map numR)) (.int .i64 (i:Int)) (.int .i64 ((k + 1:Nat):Int)) (sl MC oms) x6 x7 x8 x9 (sl PT ops) (sl LK ol) (sl PN oi) (sl PN oo) r14 r15 r16 r17 (tabV 16384 T2) x19 (L2.map SgV) ((L2.map flL).map LL) ((A ++ [((q:Int),some (syG (li oms) (li ops) (li ol) (li oi) (li oo) o s k),())]).map fun r => I r.1) ((A ++ [((q:Int),some (syG (li oms) (li ops) (li ol) (li oi) (li oo) o s k),())]).map fun r => [sl I r.2.1]):=by
   intro T2 L2 q hq hL2
   obtain ⟨_,v2,v3,_⟩:=tab_at T2 u1
   have b1:(A.length + 1) * 8 ≤ room:=by unfold room;omega
   have b2:(A.length + 1) * 24 ≤ room:=by unfold room;omega
   rw [ref02_Flat.L4_eq]
   simp only [v2,v3,hq,bindO_s,List.length_map,b1,b2,decide_true,gB_t,fBin_add,w,List.map_append,List.map_cons,List.map_nil,tvI]
   rfl
  have e0:ref02_Flat.L3 (.arr (((li oi).map (inAt (li oms) (li ops))).map P)) (.int .i64 (prodL ((li oi).map (inAt (li oms) (li ops))):Int)) (.arr (o.map numR)) (.int .i64 (i:Int)) (.int .i64 (k:Int)) (sl MC oms) x6 x7 x8 x9 (sl PT ops) (sl LK ol) (sl PN oi) (sl PN oo) r14 r15 r16 r17 (tabV 16384 T) x19 (L.map SgV) ((L.map flL).map LL) (A.map fun r => I r.1) (A.map fun r => [sl I r.2.1]) =
    if tvI (T u) < 0 then (if L.length = 4096 then some (errF 26) else ref02_Flat.L4 (.arr (((li oi).map (inAt (li oms) (li ops))).map P)) (.int .i64 (prodL ((li oi).map (inAt (li oms) (li ops))):Int)) (.arr (o.map numR)) (.int .i64 (i:Int)) (.int .i64 (k:Int)) (.arr ((syG (li oms) (li ops) (li ol) (li oi) (li oo) o s k).map I)) (.int .i64 (u:Int)) (sl MC oms) x6 x7 x8 x9 (sl PT ops) (sl LK ol) (sl PN oi) (sl PN oo) r14 r15 r16 r17 (tabV 16384 fun j => if j = u then some L.length else T j) x19 ((L ++ [t]).map SgV) (((L ++ [t]).map flL).map LL) (A.map fun r => I r.1) (A.map fun r => [sl I r.2.1]))
    else ref02_Flat.L4 (.arr (((li oi).map (inAt (li oms) (li ops))).map P)) (.int .i64 (prodL ((li oi).map (inAt (li oms) (li ops))):Int)) (.arr (o.map numR)) (.int .i64 (i:Int)) (.int .i64 (k:Int)) (.arr ((syG (li oms) (li ops) (li ol) (li oi) (li oo) o s k).map I)) (.int .i64 (u:Int)) (sl MC oms) x6 x7 x8 x9 (sl PT ops) (sl LK ol) (sl PN oi) (sl PN oo) r14 r15 r16 r17 (tabV 16384 T) x19 (L.map SgV) ((L.map flL).map LL) (A.map fun r => I r.1) (A.map fun r => [sl I r.2.1]):=by
   have b1:(L.length + 1) * 48 ≤ room:=by unfold room;omega
   have b2:(L.length + 1) * 24 ≤ room:=by unfold room;omega
   have hc:((L.length:Int) = 4096) ↔ L.length = 4096:=by omega
   have hw:ref02_flat (.agg [.arr (t.1.map I),.arr (t.2.map LL)]) = _:=hfl
   rw [ref02_Flat.L3_eq]
   simp only [bindO_s,fBin_lss,fCond_b,decide_eq_true_eq,show ((k:Int) < (prodL ((li oi).map (inAt (li oms) (li ops))):Int)) by omega,if_true,rIdx_at (show i < (L.map SgV).length by simpa using hi2),rGet_at hgS,SgV,List.getElem?_cons_zero,List.getElem?_cons_succ,parts_g h (show k < 1000000 by omega)]
   rw [show ref02_move (sl MC oms) (.agg [x9,sl PT ops,sl LK ol,sl PN oi,sl PN oo]) (.arr (o.map numR)) (.agg [.arr (s.1.map I),.arr (s.2.map LL)]) (.arr ((ltr (li oms) (li ops) (li oi) k).map I)) = _ from hmv]
   simp only [bindO_s,fIsTup_tup,fIsAgg_agg,SgV,List.length_cons,List.length_nil,fTup_zero,fTup_succ,fCell_zero,fCell_succ]
   rw [show (0 + 1 + 1 == 2) = true from rfl,gB_t,gB_t,hw]
   simp only [bindO_s,u2,fScal,gB_t,t2,t3,fBin_lss,fCond_b,decide_eq_true_eq,List.length_map,fBin_eql,hc,t4,b1,b2,decide_true,List.map_append,List.map_cons,List.map_nil]
   rfl
  by_cases g:t ∈ L
  ·have hTu:T u = some (pos t L):=u3 _ (by rw [List.getElem?_map,pos_get g];rfl)
   have ha:addS L t = L:=if_pos g
   rw [ha] at hexp
   rw [hTu,if_neg (by simp [tvI]),l4 T L _ hTu hle] at e0
   obtain ⟨j1,j2⟩:=ih (k + 1) L T (A ++ [((pos t L:Int),some (syG (li oms) (li ops) (li ol) (li oi) (li oo) o s k),())]) (by omega) (by omega) hnd hall hle hs hT (by simp;omega)
   rw [hexp,e0]
   refine ⟨j1,fun hl => ?_⟩
   obtain ⟨T',m1,m2⟩:=j2 hl
   refine ⟨T',m1,m2.trans ?_⟩
   have hrow:rowK (nxG (li oms) (li ops) (li ol) (li oi) o) (syG (li oms) (li ops) (li ol) (li oi) (li oo) o) (expS L ((List.range' (k + 1) d).map (nxG (li oms) (li ops) (li ol) (li oi) o s))) s k = ((pos t L:Int),some (syG (li oms) (li ops) (li ol) (li oi) (li oo) o s k),()):=by
    obtain ⟨M,hM⟩:=expS_pre ((List.range' (k + 1) d).map (nxG (li oms) (li ops) (li ol) (li oi) o s)) L
    rw [hM];unfold rowK;rw [ht,pos_app M g]
   rw [List.range'_succ,List.map_cons,hrow,List.append_assoc,List.singleton_append]
  ·have hfk:flL t ∉ L.map flL:=fun hm => by
    obtain ⟨y,hy,e⟩:=List.mem_map.1 hm
    exact g (st_inj h.ok h.mok (hall y hy) hpt e ▸ hy)
   obtain ⟨v1,v2⟩:=u4 hfk
   have ha:addS L t = L ++ [t]:=if_neg g
   rw [ha] at hexp
   rw [v1,if_pos (by decide)] at e0
   by_cases g2:L.length = 4096
   ·rw [if_pos g2] at e0
    have:=expS_len ((List.range' (k + 1) d).map (nxG (li oms) (li ops) (li ol) (li oi) o s)) (L ++ [t])
    simp at this
    exact ⟨fun _ => e0,fun hl => by rw [hexp] at hl;omega⟩
   ·rw [if_neg g2,l4 _ (L ++ [t]) L.length (by simp) (by simp;omega)] at e0
    have hT2:Tab 16384 (fun j => if j = u then some L.length else T j) ((L ++ [t]).map flL):=by
     have:=v2
     rw [List.length_map] at this
     simpa using this
    obtain ⟨j1,j2⟩:=ih (k + 1) (L ++ [t]) _ (A ++ [((L.length:Int),some (syG (li oms) (li ops) (li ol) (li oi) (li oo) o s k),())]) (by omega) (by omega) (ha ▸ addS_nd hnd t) (ha ▸ addS_all hall hpt) (by simp;omega) (by rw [List.getElem?_append_left hi2];exact hs) hT2 (by simp;omega)
    rw [hexp,e0]
    refine ⟨j1,fun hl => ?_⟩
    obtain ⟨T',m1,m2⟩:=j2 hl
    refine ⟨T',m1,m2.trans ?_⟩
    have hrow:rowK (nxG (li oms) (li ops) (li ol) (li oi) o) (syG (li oms) (li ops) (li ol) (li oi) (li oo) o) (expS (L ++ [t]) ((List.range' (k + 1) d).map (nxG (li oms) (li ops) (li ol) (li oi) o s))) s k = ((L.length:Int),some (syG (li oms) (li ops) (li ol) (li oi) (li oo) o s k),()):=by
     obtain ⟨M,hM⟩:=expS_pre ((List.range' (k + 1) d).map (nxG (li oms) (li ops) (li ol) (li oi) o s)) (L ++ [t])
     rw [hM];unfold rowK;rw [ht,pos_app M (by simp),pos_new g]
    rw [List.range'_succ,List.map_cons,hrow,List.append_assoc,List.singleton_append]
end
end Go.Proofs.Ytelcbakleaaneaa
end
section
namespace Go.Proofs.Ytelcbakleaaneaa
open Go Go.Proofs.Ytelcbakleaaneaa.VM
def decF:Nat → Nat → Str
 | 0,_ => []
 | f + 1,n => if n < 10 then [UInt8.ofNat (48 + n)] else decF f (n / 10) ++ [UInt8.ofNat (48 + n % 10)]
theorem decF_len:∀ f n,(decF f n).length ≤ f
 | 0,_ => by simp [decF]
 | f + 1,n => by
  unfold decF
  split
  ·simp
  ·have:=decF_len f (n / 10)
   simp;omega
theorem enc_digit:∀ r:Nat,r < 10 → (Utf8.encode (48 + (r:Int))).data.toList = [UInt8.ofNat (48 + r)]
 | 0,_ => rfl
 | 1,_ => rfl
 | 2,_ => rfl
 | 3,_ => rfl
 | 4,_ => rfl
 | 5,_ => rfl
 | 6,_ => rfl
 | 7,_ => rfl
 | 8,_ => rfl
 | 9,_ => rfl
 | n + 10,h => by omega
theorem bytes_digit {r:Nat} (h:r < 10):bytes? [[FV.int .u8 (IntKind.u8.wrap (IntKind.i64.wrap (48 + (r:Int))))]] = some [UInt8.ofNat (48 + r)]:=by
 rw [wrap64 (by omega) (by omega),wrap8 (by omega) (by omega)]
 simp only [bytes?,byte?,bindO_s]
 rw [show (48 + (r:Int)).toNat = 48 + r by omega]
theorem fBin_addS {a b:Str} (h:a.length + b.length ≤ 9223372036854775807):fBin .add (.str a) (.str b) = some (.str (a ++ b)):=by simp [fBin,h]
theorem quo10 {n:Nat} (h:n < 1000000000000):fBin .quo (.int .i64 (n:Int)) (.int .i64 10) = some (.int .i64 ((n / 10:Nat):Int)):=by
 have e:IntKind.i64.wrap ((n:Int).tdiv 10) = ((n / 10:Nat):Int):=by
  rw [show ((n:Int).tdiv 10) = ((n / 10:Nat):Int) by rw [show (10:Int) = ((10:Nat):Int) from rfl,← Int.ofNat_tdiv]]
  exact wrap64 (by omega) (by omega)
 simp only [fBin_quo,show ¬ (10:Int) = 0 by decide,if_false,e]
theorem rem10 {n:Nat}:fBin .rem (.int .i64 (n:Int)) (.int .i64 10) = some (.int .i64 ((n % 10:Nat):Int)):=by
 simp only [fBin_rem,show ¬ (10:Int) = 0 by decide,if_false]
 rw [show ((n:Int).tmod 10) = ((n % 10:Nat):Int) by rw [show (10:Int) = ((10:Nat):Int) from rfl,← Int.ofNat_tmod]]
theorem digits_text:∀ (f n:Nat),n < 10 ^ (f + 1) → f ≤ 9 → ref02_digits (.int .i64 (n:Int)) = some (.str (decF (f + 1) n))
 | f,n,h,hf => by
  have hp:10 ^ (f + 1) ≤ 10 ^ 10:=Nat.pow_le_pow_right (by decide) (by omega)
  have hn:n < 10000000000:=Nat.lt_of_lt_of_le h hp
  rw [ref02_digits.eq]
  unfold decF
  by_cases g:n < 10
  ·simp only [fBin_lss,bindO_s,fCond_b,decide_eq_true_eq,show ((n:Int) < 10) by omega,if_true,fBin_add,fConvInt_int,bytes_digit g,g]
  ·cases f with
   | zero => simp at h;omega
   | succ f =>
    have ih:=digits_text f (n / 10) (by rw [Nat.pow_succ] at h;omega) (by omega)
    have hl:=decF_len (f + 1) (n / 10)
    simp only [fBin_lss,bindO_s,fCond_b,decide_eq_true_eq,show ¬ ((n:Int) < 10) by omega,if_false,quo10 (n:=n) (by omega),ih,rem10,fBin_add,fConvInt_int,bytes_digit (r:=n % 10) (by omega),g]
    rw [fBin_addS (by simp;omega)]
    rfl
theorem wrap32 {n:Int} (h1:0 ≤ n) (h2:n < 1000):IntKind.i32.wrap n = n:=by
 simp [IntKind.wrap,IntKind.bits,IntKind.signed]
 split <;> omega
theorem decimal_L0:∀ (f n:Nat) (s:Str),n < 10 ^ (f + 1) → f ≤ 9 → s.length + f ≤ 1000 → mach_decimal.L0 (.int .i64 (n:Int)) (.str s) = some (.str (decF (f + 1) n ++ s))
 | f,n,s,h,hf,hs => by
  have hp:10 ^ (f + 1) ≤ 10 ^ 10:=Nat.pow_le_pow_right (by decide) (by omega)
  have hn:n < 10000000000:=Nat.lt_of_lt_of_le h hp
  have hr:n % 10 < 10:=Nat.mod_lt _ (by decide)
  have hc:fToStrI (.int .i32 (IntKind.i32.wrap (IntKind.i64.wrap (48 + ((n % 10:Nat):Int))))) = some (.str [UInt8.ofNat (48 + n % 10)]):=by
   rw [wrap64 (by omega) (by omega),wrap32 (by omega) (by omega)]
   simp only [fToStrI,enc_digit _ hr]
  rw [mach_decimal.L0_eq]
  unfold decF
  simp only [rem10,bindO_s,fBin_add,fConvInt_int,hc]
  rw [fBin_addS (by simp;omega)]
  simp only [bindO_s,quo10 (n:=n) (by omega),fBin_eql,fCond_b,decide_eq_true_eq]
  by_cases g:n < 10
  ·rw [if_pos (by omega),if_pos g,Nat.mod_eq_of_lt g]
  ·rw [if_neg (by omega),if_neg g]
   cases f with
   | zero => simp at h;omega
   | succ f =>
    have ih:=decimal_L0 f (n / 10) ([UInt8.ofNat (48 + n % 10)] ++ s) (by rw [Nat.pow_succ] at h;omega) (by omega) (by simp;omega)
    rw [ih,List.append_assoc]
def dec (n:Nat):Str:=decF 4 n
theorem dec_ref {n:Nat} (h:n < 10000):ref02_digits (.int .i64 (n:Int)) = some (.str (dec n)):=digits_text 3 n h (by decide)
theorem dec_mach {n:Nat} (h:n < 10000):mach_decimal (.int .i64 (n:Int)) = some (.str (dec n)):=by
 rw [mach_decimal.eq]
 have:=decimal_L0 3 n [] h (by decide) (by decide)
 simpa [dec] using this
theorem dec_len (n:Nat):(dec n).length ≤ 4:=decF_len 4 n
def nmP (c:UInt8):Nat → List TPort → List TPort
 | _,[] => []
 | i,p :: l => (c :: dec i,some (li p.2.1),()) :: nmP c (i + 1) l
theorem nmP_len (c:UInt8):∀ (i:Nat) (l:List TPort),(nmP c i l).length = l.length
 | _,[] => rfl
 | i,p :: l => by simp [nmP,nmP_len c (i + 1) l]
theorem prodL_nm (c:UInt8):∀ (i:Nat) (l:List TPort),prodL (nmP c i l) = prodL l
 | _,[] => rfl
 | i,p :: l => by simp [nmP,prodL,prodL_nm c (i + 1) l]
theorem cpP_nm (c:UInt8):∀ (i:Nat) (l:List TPort),cpP (nmP c i l) = nmP c i l
 | _,[] => rfl
 | i,p :: l => by
  have:=cpP_nm c (i + 1) l
  simp only [cpP] at this
  simp [nmP,cpP,this]
theorem digs_nm (c:UInt8):∀ (i:Nat) (l:List TPort) (n:Nat),digs (nmP c i l) n = digs l n
 | _,[],_ => rfl
 | i,p :: l,n => by simp [nmP,digs,digs_nm c (i + 1) l]
theorem fitGo_nm (c:UInt8):∀ (i:Nat) (l:List TPort) (v:List Int),fitGo (nmP c i l) v = fitGo l v
 | _,[],v => by simp [nmP,fitGo]
 | i,p :: l,[] => by simp [nmP,fitGo]
 | i,p :: l,x :: v => by
  simp only [nmP,fitGo,fitGo_nm c (i + 1) l,li_some]
  rfl
theorem fitP_nm (c:UInt8) (i:Nat) (l:List TPort) (v:List Int):fitP (nmP c i l) v = fitP l v:=by
 simp only [fitP,nmP_len,fitGo_nm]
theorem numGo_nm (c:UInt8):∀ (i:Nat) (l:List TPort) (v:List Int) (a:Nat),numGo (nmP c i l) v a = numGo l v a
 | _,[],v,a => by simp [nmP,numGo]
 | i,p :: l,[],a => by simp [nmP,numGo]
 | i,p :: l,x :: v,a => by simp [nmP,numGo,numGo_nm c (i + 1) l]
theorem nmP_lens (c:UInt8):∀ (i:Nat) {l:List TPort},Lens l → Lens (nmP c i l)
 | _,[],_ => fun p hp => by cases hp
 | i,p :: l,h => by
  intro q hq
  rcases List.mem_cons.1 hq with rfl | hq
  ·exact h p (by simp)
  ·exact nmP_lens c (i + 1) (fun r hr => h r (by simp [hr])) q hq
theorem nmP_sm (c:UInt8):∀ (i:Nat) {l:List TPort},(∀ p ∈ l,SmP p) → ∀ p ∈ nmP c i l,SmP p
 | _,[],_ => fun p hp => by cases hp
 | i,p :: l,h => by
  intro q hq
  rcases List.mem_cons.1 hq with rfl | hq
  ·have:=dec_len i
   exact ⟨by simp;omega,(h p (by simp)).2⟩
  ·exact nmP_sm c (i + 1) (fun r hr => h r (by simp [hr])) q hq
def qN (n:Nat):List Str:=(List.range n).map fun k => 113 :: dec k
theorem qN_len (n:Nat):(qN n).length = n:=by simp [qN]
theorem qN_succ (n:Nat):qN (n + 1) = qN n ++ [113 :: dec n]:=by simp [qN,List.range_succ]
theorem add_dec (c:UInt8) {k:Nat}:fBin .add (.str [c]) (.str (dec k)) = some (.str (c :: dec k)):=by
 have:=dec_len k
 rw [fBin_addS (by simp;omega)];rfl
theorem rf_L7 {H:List Nat} (hH:H.length ≤ 4096) (x2 x3 x4 x5 x6 x7 x8 x9 x10 x16 x21 x22 x23:FV) (r11 r12 r13 r14 r15 r17 r18 r19 r20 r24 r25:List (List FV)):∀ d k,H.length - k = d → k ≤ H.length →
  ref02_Flat.L7 (.arr (NV H)) (.int .i64 (k:Int)) x2 x3 x4 x5 x6 x7 x8 x9 x10 r11 r12 r13 r14 r15 x16 r17 r18 r19 r20 x21 x22 x23 r24 r25 ((qN k).map S) =
  bindO (ref02_Check (.agg [x21,.arr ((qN H.length).map S),x22,.arr r24,.arr r25,x23])) fun v33 => bindO (fBin .neq v33 (.int .i64 0)) fun v34 => fCond v34 (some (.tup [.agg [.str [],.nilS,.int .i64 0,.nilS,.nilS,.nilS],v33])) (some (.tup [.agg [x21,.arr ((qN H.length).map S),x22,.arr r24,.arr r25,x23],.int .i64 0])):=by
 intro d
 have hNV:(NV H).length = H.length:=by simp [NV]
 induction d with
 | zero =>
  intro k hd hk
  rw [ref02_Flat.L7_eq]
  simp only [fLen_arr,hNV,bindO_s,fBin_lss,fCond_b,decide_eq_true_eq,Int.ofNat_lt,show ¬ k < H.length by omega,if_false]
  rw [show k = H.length by omega]
 | succ d ih =>
  intro k hd hk
  have w:IntKind.i64.wrap ((k:Int) + 1) = ((k + 1:Nat):Int):=wrap64 (by omega) (by omega)
  have ih':=ih (k + 1) (by omega) (by omega)
  rw [qN_succ] at ih'
  have b1:(k + 1) * 16 ≤ room:=by unfold room;omega
  rw [ref02_Flat.L7_eq]
  simp only [fLen_arr,hNV,bindO_s,fBin_lss,fCond_b,decide_eq_true_eq,Int.ofNat_lt,show k < H.length by omega,if_true,dec_ref (show k < 10000 by omega),add_dec,List.length_map,qN_len,b1,decide_true,gB_t,fBin_add,w]
  rw [← ih',List.map_append]
  rfl
section
variable {oms:Option (List TMach)} {ops:Option (List TPart)} {ol:Option (List TLink)} {oi oo:Option (List TPin)} {o:List Nat} (h:FlN (li oms) (li ops) (li ol) (li oi) (li oo) o)
include h
theorem rf_L6 (x0 x3 x4 x5 x6 x16 x21 x22 x23:FV) (r11 r12 r13 r14 r15 r17 r18 r19 r20 r24 r25:List (List FV)):∀ (t:List TPin) (k:Nat) (acc:List TPort),(li oo).drop k = t → acc.length = k →
  ref02_Flat.L6 x0 (.int .i64 (k:Int)) (sl MC oms) x3 x4 x5 x6 (sl PT ops) (sl LK ol) (sl PN oi) (sl PN oo) r11 r12 r13 r14 r15 x16 r17 r18 r19 r20 x21 x22 x23 r24 r25 (acc.map P) =
  ref02_Flat.L7 x0 (.int .i64 0) (sl MC oms) x3 x4 x5 x6 (sl PT ops) (sl LK ol) (sl PN oi) (sl PN oo) r11 r12 r13 r14 r15 x16 r17 r18 r19 r20 x21 x22 x23 r25 ((acc ++ nmP 111 k (t.map (outAt (li oms) (li ops)))).map P) r24:=by
 intro t
 have ho8:=h.o8
 have hL:=outAt_lens h.ok h.mok
 induction t with
 | nil =>
  intro k acc hd ha
  rw [ref02_Flat.L6_eq]
  simp only [fLen_sl,bindO_s,fBin_lss,fCond_b,decide_eq_true_eq,Int.ofNat_lt,drop_nil hd,if_false,List.map_nil,nmP,List.append_nil]
 | cons q t ih =>
  intro k acc hd ha
  obtain ⟨hk,hn,hs⟩:=drop_cons hd
  have w:IntKind.i64.wrap ((k:Int) + 1) = ((k + 1:Nat):Int):=wrap64 (by omega) (by omega)
  have hq:=List.mem_of_getElem? hn
  obtain ⟨r,m,j1,j2,j3,_,_⟩:=out_get h.ok.pin (h.ok.ook q hq)
  have hl:=hL _ (List.mem_map_of_mem hq)
  have b1:(0 + (li (outAt (li oms) (li ops) q).2.1).length) * 16 ≤ room:=by unfold room;omega
  have b2:(acc.length + 1) * 40 ≤ room:=by unfold room;omega
  have ih':=ih (k + 1) (acc ++ [(111 :: dec k,some (li (outAt (li oms) (li ops) q).2.1),())]) hs (by simp [ha])
  rw [ref02_Flat.L6_eq]
  simp only [fLen_sl,bindO_s,fBin_lss,fCond_b,decide_eq_true_eq,Int.ofNat_lt,hk,if_true,idx_sl hn (PN_len q),PN_zero,PN_one,j1,PT_one,j2,MC_four,j3,P_zero,P_one,dec_ref (show k < 10000 by omega),add_dec,asRows_sl,rowsSz_map (fun s => S_len s),List.length_map,b1,b2,decide_true,gB_t,fBin_add,w,List.nil_append]
  rw [show acc.map P ++ [[FV.str (111 :: dec k),.arr ((li (outAt (li oms) (li ops) q).2.1).map S)]] = (acc ++ [((111 :: dec k,some (li (outAt (li oms) (li ops) q).2.1),()):TPort)]).map P by simp [P,sl]]
  rw [ih',List.map_cons,nmP,List.append_assoc,List.singleton_append]
theorem rf_L5 (x1 x3 x4 x5 x6 x7 x8 x9 x10 x11 x17 x22 x23 x24:FV) (r12 r13 r14 r15 r16 r18 r19 r20 r21 r25 r27:List (List FV)):∀ (t:List TPort) (k:Nat) (acc:List TPort),((li oi).map (inAt (li oms) (li ops))).drop k = t → acc.length = k →
  ref02_Flat.L5 (.arr (((li oi).map (inAt (li oms) (li ops))).map P)) x1 (.int .i64 (k:Int)) x3 x4 x5 x6 x7 x8 x9 x10 x11 r12 r13 r14 r15 r16 x17 r18 r19 r20 r21 x22 x23 x24 r25 (acc.map P) r27 =
  ref02_Flat.L6 x1 (.int .i64 0) x3 x4 x5 x6 x7 x8 x9 x10 x11 r12 r13 r14 r15 r16 x17 r18 r19 r20 r21 x22 x23 x24 r25 ((acc ++ nmP 105 k t).map P) r27:=by
 intro t
 have hi8:=h.i8
 have hL:=inAt_lens h.ok h.mok
 generalize hps:(li oi).map (inAt (li oms) (li ops)) = ps at hL
 have hpl:ps.length ≤ 8:=by rw [← hps];simpa using hi8
 induction t with
 | nil =>
  intro k acc hd ha
  rw [ref02_Flat.L5_eq]
  simp only [fLen_arr,List.length_map,bindO_s,fBin_lss,fCond_b,decide_eq_true_eq,Int.ofNat_lt,drop_nil hd,if_false,nmP,List.append_nil]
 | cons q t ih =>
  intro k acc hd ha
  obtain ⟨hk,hn,hs⟩:=drop_cons hd
  have w:IntKind.i64.wrap ((k:Int) + 1) = ((k + 1:Nat):Int):=wrap64 (by omega) (by omega)
  have hl:=hL _ (List.mem_of_getElem? hn)
  have hg:(ps.map P)[k]? = some (P q):=by rw [List.getElem?_map,hn];rfl
  have b1:(0 + (li q.2.1).length) * 16 ≤ room:=by unfold room;omega
  have b2:(acc.length + 1) * 40 ≤ room:=by unfold room;omega
  have ih':=ih (k + 1) (acc ++ [(105 :: dec k,some (li q.2.1),())]) hs (by simp [ha])
  rw [ref02_Flat.L5_eq]
  simp only [fLen_arr,List.length_map,bindO_s,fBin_lss,fCond_b,decide_eq_true_eq,Int.ofNat_lt,hk,if_true,idx_arr hg (P_len q),P_zero,P_one,dec_ref (show k < 10000 by omega),add_dec,asRows_sl,rowsSz_map (fun s => S_len s),b1,b2,decide_true,gB_t,fBin_add,w,List.nil_append]
  rw [show acc.map P ++ [[FV.str (105 :: dec k),.arr ((li q.2.1).map S)]] = (acc ++ [((105 :: dec k,some (li q.2.1),()):TPort)]).map P by simp [P,sl]]
  rw [ih',nmP,List.append_assoc,List.singleton_append]
end
end Go.Proofs.Ytelcbakleaaneaa
end
section
namespace Go.Proofs.Ytelcbakleaaneaa
open Go Go.Proofs.Ytelcbakleaaneaa.VM
def resF (m:TMach):FV:=if checkP m ≠ 0 then errF (checkP m) else .tup [.agg (MC m),.int .i64 0]
def insG (ms:List TMach) (ps:List TPart) (is:List TPin):List TPort:=nmP 105 0 (is.map (inAt ms ps))
def outsG (ms:List TMach) (ps:List TPart) (os:List TPin):List TPort:=nmP 111 0 (os.map (outAt ms ps))
def s0G (ms:List TMach) (ps:List TPart) (ls:List TLink):Sg:=(sts0 ms ps,q0 ls)
noncomputable def F2 (oms:Option (List TMach)) (ops:Option (List TPart)) (ol:Option (List TLink)) (oi oo:Option (List TPin)) (o:List Nat) (x6 x7 x8 x9:FV) (i:Nat) (T:Nat → Option Nat) (A:List TRow) (L:List Sg):R :=
 ref02_Flat.L2 (.arr (((li oi).map (inAt (li oms) (li ops))).map P)) (.int .i64 (prodL ((li oi).map (inAt (li oms) (li ops))):Int)) (.arr (o.map numR)) (.int .i64 (i:Int)) (sl MC oms) x6 x7 x8 x9 (sl PT ops) (sl LK ol) (sl PN oi) (sl PN oo) [] [] [] [] (tabV 16384 T) (.int .i64 (prodL ((li oi).map (inAt (li oms) (li ops))):Int)) (A.map fun r => I r.1) (A.map fun r => [sl I r.2.1]) (L.map SgV) ((L.map flL).map LL)
section
variable {oms:Option (List TMach)} {ops:Option (List TPart)} {ol:Option (List TLink)} {oi oo:Option (List TPin)} {o:List Nat} (h:FlN (li oms) (li ops) (li ol) (li oi) (li oo) o)
include h
theorem rf_L2 (x6 x7 x8 x9:FV):∀ (f i:Nat) (L:List Sg) (T:Nat → Option Nat),4097 ≤ f + i → i ≤ L.length → Met (prodL ((li oi).map (inAt (li oms) (li ops)))) (nxG (li oms) (li ops) (li ol) (li oi) o) (PrG (li oms) (li ops) (li ol)) i L → Tab 16384 T (L.map flL) →
  (bfsS (prodL ((li oi).map (inAt (li oms) (li ops)))) (nxG (li oms) (li ops) (li ol) (li oi) o) f i L = none → F2 oms ops ol oi oo o x6 x7 x8 x9 i T (accR (prodL ((li oi).map (inAt (li oms) (li ops)))) (nxG (li oms) (li ops) (li ol) (li oi) o) (syG (li oms) (li ops) (li ol) (li oi) (li oo) o) L (L.take i)) L = some (errF 26)) ∧
  ∀ L',bfsS (prodL ((li oi).map (inAt (li oms) (li ops)))) (nxG (li oms) (li ops) (li ol) (li oi) o) f i L = some L' → ∃ T',F2 oms ops ol oi oo o x6 x7 x8 x9 i T (accR (prodL ((li oi).map (inAt (li oms) (li ops)))) (nxG (li oms) (li ops) (li ol) (li oi) o) (syG (li oms) (li ops) (li ol) (li oi) (li oo) o) L (L.take i)) L =
   F2 oms ops ol oi oo o x6 x7 x8 x9 L'.length T' (accR (prodL ((li oi).map (inAt (li oms) (li ops)))) (nxG (li oms) (li ops) (li ol) (li oi) o) (syG (li oms) (li ops) (li ol) (li oi) (li oo) o) L' L') L':=by
 intro f
 induction f with
 | zero => intro i L T hf hi hM hT;have:=hM.le;omega
 | succ f ih =>
  intro i L T hf hi hM hT
  have hle:=hM.le
  have hp:=h.p256
  cases hc:L[i]? with
  | none =>
   have e:i = L.length:=by have:=List.getElem?_eq_none_iff.1 hc;omega
   subst e
   unfold bfsS
   simp only [hc]
   refine ⟨fun e => by simp at e,fun L' e => ?_⟩
   cases e
   exact ⟨T,by rw [List.take_length]⟩
  | some s =>
   have hi':=(List.getElem?_eq_some_iff.1 hc).1
   have hal:(accR (prodL ((li oi).map (inAt (li oms) (li ops)))) (nxG (li oms) (li ops) (li ol) (li oi) o) (syG (li oms) (li ops) (li ol) (li oi) (li oo) o) L (L.take i)).length ≤ 1048576:=by
    rw [accR_len]
    have:(L.take i).length * prodL ((li oi).map (inAt (li oms) (li ops))) ≤ 4096 * 256:=Nat.mul_le_mul (by simp;omega) hp
    omega
   obtain ⟨k1,k2⟩:=rf_L3 h (s:=s) (i:=i) (by omega) x6 x7 x8 x9 (.int .i64 (prodL ((li oi).map (inAt (li oms) (li ops))):Int)) [] [] [] [] _ 0 L T (accR (prodL ((li oi).map (inAt (li oms) (li ops)))) (nxG (li oms) (li ops) (li ol) (li oi) o) (syG (li oms) (li ops) (li ol) (li oi) (li oo) o) L (L.take i)) rfl (Nat.zero_le _) hM.nd hM.all hle hc hT (by omega)
   have e0:F2 oms ops ol oi oo o x6 x7 x8 x9 i T (accR (prodL ((li oi).map (inAt (li oms) (li ops)))) (nxG (li oms) (li ops) (li ol) (li oi) o) (syG (li oms) (li ops) (li ol) (li oi) (li oo) o) L (L.take i)) L = ref02_Flat.L3 (.arr (((li oi).map (inAt (li oms) (li ops))).map P)) (.int .i64 (prodL ((li oi).map (inAt (li oms) (li ops))):Int)) (.arr (o.map numR)) (.int .i64 (i:Int)) (.int .i64 ((0:Nat):Int)) (sl MC oms) x6 x7 x8 x9 (sl PT ops) (sl LK ol) (sl PN oi) (sl PN oo) [] [] [] [] (tabV 16384 T) (.int .i64 (prodL ((li oi).map (inAt (li oms) (li ops))):Int)) (L.map SgV) ((L.map flL).map LL) ((accR (prodL ((li oi).map (inAt (li oms) (li ops)))) (nxG (li oms) (li ops) (li ol) (li oi) o) (syG (li oms) (li ops) (li ol) (li oi) (li oo) o) L (L.take i)).map fun r => I r.1) ((accR (prodL ((li oi).map (inAt (li oms) (li ops)))) (nxG (li oms) (li ops) (li ol) (li oi) o) (syG (li oms) (li ops) (li ol) (li oi) (li oo) o) L (L.take i)).map fun r => [sl I r.2.1]):=by
    unfold F2
    rw [ref02_Flat.L2_eq]
    simp only [bindO_s,fBin_lss,fCond_b,decide_eq_true_eq,Int.ofNat_lt,List.length_map,hi',if_true]
    rfl
   rw [Nat.sub_zero] at k1 k2
   change (4096 < (rnd (prodL ((li oi).map (inAt (li oms) (li ops)))) (nxG (li oms) (li ops) (li ol) (li oi) o) L s).length → _) at k1
   change ((rnd (prodL ((li oi).map (inAt (li oms) (li ops)))) (nxG (li oms) (li ops) (li ol) (li oi) o) L s).length ≤ 4096 → _) at k2
   rw [e0]
   unfold bfsS
   simp only [hc]
   by_cases g:4096 < (rnd (prodL ((li oi).map (inAt (li oms) (li ops)))) (nxG (li oms) (li ops) (li ol) (li oi) o) L s).length
   ·rw [if_pos g]
    exact ⟨fun _ => k1 g,fun L' e => by cases e⟩
   ·rw [if_neg g]
    obtain ⟨T',t1,t2⟩:=k2 (by omega)
    have hlen:=expS_len ((List.range' 0 (prodL ((li oi).map (inAt (li oms) (li ops))))).map (nxG (li oms) (li ops) (li ol) (li oi) o s)) L
    obtain ⟨j1,j2⟩:=ih (i + 1) _ T' (by omega) (by unfold rnd;omega) (hM.step h.pr hc (by omega)) t1
    rw [accR_next hM hc] at j1 j2
    have e1:=t2.trans (rfl:_ = F2 oms ops ol oi oo o x6 x7 x8 x9 (i + 1) T' (accR (prodL ((li oi).map (inAt (li oms) (li ops)))) (nxG (li oms) (li ops) (li ol) (li oi) o) (syG (li oms) (li ops) (li ol) (li oi) (li oo) o) L (L.take i) ++ (List.range' 0 (prodL ((li oi).map (inAt (li oms) (li ops))))).map (rowK (nxG (li oms) (li ops) (li ol) (li oi) o) (syG (li oms) (li ops) (li ol) (li oi) (li oo) o) (rnd (prodL ((li oi).map (inAt (li oms) (li ops)))) (nxG (li oms) (li ops) (li ol) (li oi) o) L s) s)) (rnd (prodL ((li oi).map (inAt (li oms) (li ops)))) (nxG (li oms) (li ops) (li ol) (li oi) o) L s))
    rw [e1]
    exact ⟨j1,j2⟩
theorem rf_L1 (x1 x2 x4 x5 x6 x7 x8 x9 x10 x11 x12:FV) (r13 r14 r15 r16:List (List FV)):∀ (d m:Nat),16384 - m = d → m ≤ 16384 →
  ref02_Flat.L1 (.arr (((li oi).map (inAt (li oms) (li ops))).map P)) x1 x2 (.int .i64 (m:Int)) x4 x5 x6 x7 x8 x9 x10 x11 x12 r13 r14 r15 r16 (vec 16384 fun t => I (if t < m then -1 else 0)) =
  ref02_Flat.L1 (.arr (((li oi).map (inAt (li oms) (li ops))).map P)) x1 x2 (.int .i64 ((16384:Nat):Int)) x4 x5 x6 x7 x8 x9 x10 x11 x12 r13 r14 r15 r16 (tabV 16384 fun _ => none):=by
 intro d
 induction d with
 | zero =>
  intro m hd hm
  have:m = 16384:=by omega
  subst this
  rw [show (vec 16384 fun t => I (if t < 16384 then -1 else 0)) = tabV 16384 fun _ => none by
   unfold tabV vec tvI
   refine List.map_congr_left fun t ht => ?_
   rw [if_pos (List.mem_range.1 ht)]]
 | succ d ih =>
  intro m hd hm
  have hm':m < 16384:=by omega
  have w:IntKind.i64.wrap ((m:Int) + 1) = ((m + 1:Nat):Int):=wrap64 (by omega) (by omega)
  have hg:(vec 16384 fun t => I (if t < m then -1 else 0))[m]? = some (I 0):=by
   have:=vec_get (g:=fun t => I (if t < m then -1 else 0)) hm'
   simpa using this
  have hset:=vec_set (n:=16384) (g:=fun t => I (if t < m then -1 else 0)) (g':=fun t => I (if t < m + 1 then -1 else 0)) (i:=m) (fun j hj => by
   have e:(j < m) ↔ (j < m + 1):=by omega
   simp only [e])
  rw [if_pos (by omega)] at hset
  have ih':=ih (m + 1) (by omega) (by omega)
  rw [ref02_Flat.L1_eq,vec_len]
  simp only [bindO_s,fBin_lss,fCond_b,decide_eq_true_eq,show ((m:Int) < ((16384:Nat):Int)) by omega,if_true,rIdx_at (show m < (vec 16384 fun t => I (if t < m then -1 else 0)).length by rw [vec_len];exact hm'),fBin_add,w]
  rw [rSet_one hg]
  rw [show (FV.int .i64 (-1)) = FV.int .i64 (-1) from rfl]
  simp only [bindO_s]
  rw [show [FV.int .i64 (-1)] = I (-1) from rfl,hset]
  exact ih'
end
end Go.Proofs.Ytelcbakleaaneaa
end
section
namespace Go.Proofs.Ytelcbakleaaneaa
open Go Go.Proofs.Ytelcbakleaaneaa.VM
theorem slot_first {N:Nat} (hN:1 ≤ N ∧ N ≤ 1000000) {v:List Int} (hv:∀ x ∈ v,0 ≤ x ∧ x < 256) (hvl:v.length ≤ 1000000) (keys:List (List Int)) (hk:∀ q ∈ keys,q.length ≤ 1000000) :
  ref02_slot (.arr (tabV N fun _ => none)) (.arr (keys.map LL)) (.arr (v.map I)) = some (.int .i64 (((hs0 N v + 0) % N:Nat):Int)):=by
 obtain ⟨J,k1,k2,_,_,k5⟩:=slot_L1 hN (T:=fun _ => none) (keys:=keys) (v:=v) hvl hk (fun t _ i e => by cases e) _ 0 0 rfl (Nat.le_refl _) (fun i e => by cases e)
 have:J = 0:=by omega
 subst this
 rw [ref02_slot.eq]
 refine (slot_L0 hN hv hvl (fun _ => none) _ v 0 7 rfl (by decide)).trans ?_
 have e:((hsh v 7).toNat % N) = (hs0 N v + 0) % N:=by unfold hs0;rw [Nat.add_zero,Nat.mod_mod]
 rw [e]
 exact k5
theorem tab_empty (N:Nat):Tab N (fun _ => none) []:=⟨fun t _ i e => (by cases e),fun t _ u _ i e => (by cases e),fun i v e => (by simp at e)⟩
section
variable {oms:Option (List TMach)} {ops:Option (List TPart)} {ol:Option (List TLink)} {oi oo:Option (List TPin)} {o:List Nat} (h:FlN (li oms) (li ops) (li ol) (li oi) (li oo) o)
include h
theorem rf_L0 (nm:Str) (xn b:FV) (hord:ref02_Order (.agg [.str nm,sl PT ops,sl LK ol,sl PN oi,sl PN oo]) = some (.tup [.arr (o.map numR),b])):∃ T,Tab 16384 T ([s0G (li oms) (li ops) (li ol)].map flL) ∧
  ref02_Flat.L0 (.arr (((li oi).map (inAt (li oms) (li ops))).map P)) (.int .i64 (prodL ((li oi).map (inAt (li oms) (li ops))):Int)) (sl MC oms) xn (.str []) (.int .i64 0) (.str nm) (sl PT ops) (sl LK ol) (sl PN oi) (sl PN oo) [] [] [] [] = F2 oms ops ol oi oo o xn (.str []) (.int .i64 0) (.str nm) 0 T [] [s0G (li oms) (li ops) (li ol)]:=by
 have hst:PrG (li oms) (li ops) (li ol) (s0G (li oms) (li ops) (li ol)):=st0_ok h.ok h.mok
 have hsm:=st_small h.ok h.mok hst
 have hfl:=flat_ok (s:=s0G (li oms) (li ops) (li ol)) (by omega) (by omega)
 have hf0:=first_ok h.ok (.str nm) (sl PN oi) (sl PN oo)
 generalize hs0e:s0G (li oms) (li ops) (li ol) = s0 at hst hsm hfl
 have hf:ref02_first (sl MC oms) (.agg [.str nm,sl PT ops,sl LK ol,sl PN oi,sl PN oo]) = some (.agg (SgV s0)):=by rw [← hs0e];exact hf0
 obtain ⟨u,u1,u2,_,u4⟩:=slot_ok (N:=16384) (by decide) (tab_empty 16384) (by simp) (by simp) hsm.2.2 (by omega) (fun q hq => by cases hq)
 have k1:=slot_first (N:=16384) (by decide) hsm.2.2 (by omega) [] (fun q hq => by cases hq)
 have k2:=slot_first (N:=16384) (by decide) hsm.2.2 (by omega) [flL s0] (fun q hq => by simp at hq;rw [hq];omega)
 rw [← k1,u2] at k2
 obtain ⟨_,t2,_,t4⟩:=tab_at (fun _ => none) u1
 have ht:=(u4 (by simp)).2
 refine ⟨_,ht,?_⟩
 have hw:ref02_flat (.agg [.arr (s0.1.map I),.arr (s0.2.map LL)]) = _:=hfl
 rw [ref02_Flat.L0_eq,hord]
 simp only [bindO_s,fIsTup_tup,List.length_cons,List.length_nil,fTup_zero]
 rw [show (0 + 1 + 1 == 2) = true from rfl,gB_t]
 rw [show List.replicate 16384 [FV.int .i64 0] = vec 16384 fun t => I (if t < 0 then -1 else 0) by
  unfold vec
  rw [show (fun t => I (if t < 0 then -1 else 0)) = fun _:Nat => [FV.int .i64 0] by funext t;simp [I]]
  exact (List.map_const' ..).symm ▸ by rw [List.length_range]]
 refine Eq.trans (rf_L1 h _ _ _ _ _ _ _ _ _ _ _ _ _ _ _ _ 0 rfl (by omega)) ?_
 have hz:=t4 0
 rw [ref02_Flat.L1_eq]
 simp only [tabV_len,bindO_s,fBin_lss,fCond_b,decide_eq_true_eq,show ¬ ((16384:Nat):Int) < ((16384:Nat):Int) by omega,if_false,hf,SgV,fIsAgg_agg,List.length_cons,List.length_nil,fCell_zero,fCell_succ]
 rw [show (0 + 1 + 1 == 2) = true from rfl,gB_t]
 rw [show ∀ a b:FV,rIdx [[a,b]] (.int .i64 0) = some 0 from fun _ _ => rfl]
 simp only [bindO_s]
 rw [show ∀ a b:FV,rGet [[a,b]] 0 0 = some a from fun _ _ => rfl,show ∀ a b:FV,rGet [[a,b]] 0 1 = some b from fun _ _ => rfl]
 simp only [bindO_s,hw]
 rw [show ∀ a:FV,rIdx [[a]] (.int .i64 0) = some 0 from fun _ => rfl]
 simp only [bindO_s]
 rw [show ∀ a:FV,rGet [[a]] 0 0 = some a from fun _ => rfl]
 simp only [bindO_s]
 rw [show ref02_slot (.arr (tabV 16384 fun _ => none)) (.arr [[.arr ((flL s0).map I)]]) (.arr ((flL s0).map I)) = _ from k2]
 simp only [bindO_s,fScal,gB_t,t2]
 rw [show rSet (tabV 16384 fun _ => none) u 0 [.int .i64 0] = _ from hz]
 rfl
theorem rf_end {L:List Sg} {A:List TRow} {T:Nat → Option Nat} (nm:Str) (xn:FV) (hL:L.length ≤ 4096) {H:List Nat} {X:FV} {Rw:List TRow} (hH:H.length ≤ 4096)
  (h1:ref02_least (.agg [.int .i64 (prodL ((li oi).map (inAt (li oms) (li ops))):Int),nextV A,saysV A]) (.int .i64 0) = some (.tup [.arr (NV H),X]))
  (h2:ref02_rowsOf (.agg [.int .i64 (prodL ((li oi).map (inAt (li oms) (li ops))):Int),nextV A,saysV A]) (.arr (NV H)) X = some (.arr (Rw.map RW)))
  (hsm:SmM (nm,some (qN H.length),0,some (insG (li oms) (li ops) (li oi)),some (outsG (li oms) (li ops) (li oo)),some Rw,())) :
  F2 oms ops ol oi oo o xn (.str []) (.int .i64 0) (.str nm) L.length T A L = some (resF (nm,some (qN H.length),0,some (insG (li oms) (li ops) (li oi)),some (outsG (li oms) (li ops) (li oo)),some Rw,())):=by
 unfold F2
 rw [ref02_Flat.L2_eq]
 simp only [bindO_s,fBin_lss,fCond_b,decide_eq_true_eq,Int.ofNat_lt,List.length_map,Nat.lt_irrefl,if_false]
 rw [show ref02_least (.agg [.int .i64 (prodL ((li oi).map (inAt (li oms) (li ops))):Int),.arr (A.map fun r => I r.1),.arr (A.map fun r => [sl I r.2.1])]) (.int .i64 0) = _ from h1]
 simp only [bindO_s,fIsTup_tup,List.length_cons,List.length_nil,fTup_zero,fTup_succ]
 rw [show (0 + 1 + 1 == 2) = true from rfl,gB_t]
 rw [show ref02_rowsOf (.agg [.int .i64 (prodL ((li oi).map (inAt (li oms) (li ops))):Int),.arr (A.map fun r => I r.1),.arr (A.map fun r => [sl I r.2.1])]) (.arr (NV H)) X = _ from h2]
 simp only [bindO_s]
 refine Eq.trans (rf_L5 h _ _ _ _ _ _ _ _ _ _ _ _ _ _ _ _ _ _ _ _ _ _ _ _ _ ((li oi).map (inAt (li oms) (li ops))) 0 [] List.drop_zero rfl) ?_
 refine Eq.trans (rf_L6 h _ _ _ _ _ _ _ _ _ _ _ _ _ _ _ _ _ _ _ _ (li oo) 0 [] List.drop_zero rfl) ?_
 refine Eq.trans (rf_L7 hH _ _ _ _ _ _ _ _ _ _ _ _ _ _ _ _ _ _ _ _ _ _ _ _ _ 0 rfl (Nat.zero_le _)) ?_
 have hc:ref02_Check (.agg [.str nm,.arr ((qN H.length).map S),.int .i64 0,.arr ((insG (li oms) (li ops) (li oi)).map P),.arr ((outsG (li oms) (li ops) (li oo)).map P),.arr (Rw.map RW)]) = _:=ref_check_ok hsm
 rw [List.nil_append,List.nil_append,show nmP 105 0 ((li oi).map (inAt (li oms) (li ops))) = insG (li oms) (li ops) (li oi) from rfl,show nmP 111 0 ((li oo).map (outAt (li oms) (li ops))) = outsG (li oms) (li ops) (li oo) from rfl,hc]
 simp only [bindO_s,fBin_neq,fCond_b,decide_eq_true_eq]
 unfold resF
 by_cases g:checkP (nm,some (qN H.length),0,some (insG (li oms) (li ops) (li oi)),some (outsG (li oms) (li ops) (li oo)),some Rw,()) ≠ 0
 ·rw [if_pos g,if_pos g];rfl
 ·rw [if_neg g,if_neg g];rfl
end
end Go.Proofs.Ytelcbakleaaneaa
end
section
namespace Go.Proofs.Ytelcbakleaaneaa
open Go Go.Proofs.Ytelcbakleaaneaa.VM
theorem pos_mapI {α β:Type} [DecidableEq α] [DecidableEq β] {f:α → β} {t:α}:∀ L:List α,(∀ s ∈ L,f t = f s → t = s) → pos (f t) (L.map f) = pos t L
 | [],_ => rfl
 | y :: L,h => by
  have ih:=pos_mapI L fun s hs => h s (by simp [hs])
  simp only [List.map_cons,pos,ih]
  by_cases g:t = y
  ·rw [if_pos g,if_pos (by rw [g])]
  ·rw [if_neg g,if_neg fun e => g (h y (by simp) e)]
def kG (s:Sg):Str:=kT (flL s)
noncomputable def M3 (oms:Option (List TMach)) (ops:Option (List TPart)) (ol:Option (List TLink)) (oi oo:Option (List TPin)) (o:List Nat) (xn nm b1 b2:FV) (i:Nat) (A:List TRow) (L:List Sg):R :=
 mach_Flat.L3 (.int .i64 (prodL ((li oi).map (inAt (li oms) (li ops))):Int)) (sl MC oms) xn (.str []) (.int .i64 0) (sl MC oms) xn nm (sl PT ops) (sl LK ol) (sl PN oi) (sl PN oo) (.arr (o.map numR)) [] [] [] [] nm (.int .i64 0) [] ((insG (li oms) (li ops) (li oi)).map P) ((outsG (li oms) (li ops) (li oo)).map P) (idxM sK 0 (L.map kG)) (.int .i64 (i:Int)) b1 b2 (L.map SgV) (A.map RW)
noncomputable def M4 (oms:Option (List TMach)) (ops:Option (List TPart)) (ol:Option (List TLink)) (oi oo:Option (List TPin)) (o:List Nat) (xn nm b1 b2:FV) (s:Sg) (i k:Nat) (A:List TRow) (L:List Sg):R :=
 mach_Flat.L4 (.int .i64 (prodL ((li oi).map (inAt (li oms) (li ops))):Int)) (.int .i64 (prodL ((li oi).map (inAt (li oms) (li ops))):Int)) (.int .i64 (k:Int)) (sl MC oms) xn (.str []) (.int .i64 0) (sl MC oms) xn nm (sl PT ops) (sl LK ol) (sl PN oi) (sl PN oo) (.arr (o.map numR)) [] [] [] [] nm (.int .i64 0) [] ((insG (li oms) (li ops) (li oi)).map P) ((outsG (li oms) (li ops) (li oo)).map P) (idxM sK 0 (L.map kG)) (.int .i64 (i:Int)) b1 b2 (.arr (s.1.map I)) (.arr (s.2.map LL)) (.arr (s.1.map I)) (.arr (s.2.map LL)) (.arr (s.1.map I)) (.arr (s.2.map LL)) (A.map RW) (L.map SgV)
section
variable {oms:Option (List TMach)} {ops:Option (List TPart)} {ol:Option (List TLink)} {oi oo:Option (List TPin)} {o:List Nat} (h:FlN (li oms) (li ops) (li ol) (li oi) (li oo) o)
include h
theorem step_g {s:Sg} (hs:PrG (li oms) (li ops) (li ol) s) (k:Nat) (xn x0:FV) :
  mach_runner_step (.agg [sl MC oms,xn,x0,sl PT ops,sl LK ol,sl PN oi,sl PN oo,.arr (o.map numR)]) (.agg [.arr (s.1.map I),.arr (s.2.map LL)]) (.arr ((ltr (li oms) (li ops) (li oi) k).map I)) =
   some (.tup [.arr ((syG (li oms) (li ops) (li ol) (li oi) (li oo) o s k).map I),.agg (SgV (nxG (li oms) (li ops) (li ol) (li oi) o s k))]):=by
 have hi:=h.i8
 have ho:=h.o8
 exact runner_step_ok (ox:=some (ltr (li oms) (li ops) (li oi) k)) h.ok h.mok (digs_fit _ _ (inAt_lens h.ok h.mok)) hs (by omega) (by omega) h.ord (solW_eq h.ok h.ord) xn x0
theorem digits_g {k:Nat} (hk:k < 1000000):mach_digits (.arr ((insG (li oms) (li ops) (li oi)).map P)) (.int .i64 (k:Int)) = some (.arr ((ltr (li oms) (li ops) (li oi) k).map I)):=by
 have hi:=h.i8
 have:=digits_ok (o:=some (insG (li oms) (li ops) (li oi))) (by simp only [li_some,insG,nmP_len,List.length_map];omega) (nmP_lens 105 0 (inAt_lens h.ok h.mok)) (n:=k) (by omega)
 rw [show (digs (li (some (insG (li oms) (li ops) (li oi)))) k).1 = ltr (li oms) (li ops) (li oi) k by unfold ltr;simp only [li_some,insG,digs_nm]] at this
 exact this
theorem kG_inj {s t:Sg} (hs:PrG (li oms) (li ops) (li ol) s) (ht:PrG (li oms) (li ops) (li ol) t) (e:kG s = kG t):s = t:=key_inj h.ok h.mok hs ht e
theorem mf_L4 {s:Sg} (hps:PrG (li oms) (li ops) (li ol) s) {i:Nat} (xn nm b1 b2:FV):∀ (d k:Nat) (L:List Sg) (A:List TRow),prodL ((li oi).map (inAt (li oms) (li ops))) - k = d → k ≤ prodL ((li oi).map (inAt (li oms) (li ops))) →
  L.Nodup → (∀ s ∈ L,PrG (li oms) (li ops) (li ol) s) → L.length + d ≤ 10000 → A.length + d ≤ 20000000 →
  M4 oms ops ol oi oo o xn nm b1 b2 s i k A L = if 4096 < (expS L ((List.range' k d).map (nxG (li oms) (li ops) (li ol) (li oi) o s))).length then some (errF 26) else
   M3 oms ops ol oi oo o xn nm b1 b2 i (A ++ (List.range' k d).map (rowK (nxG (li oms) (li ops) (li ol) (li oi) o) (syG (li oms) (li ops) (li ol) (li oi) (li oo) o) (expS L ((List.range' k d).map (nxG (li oms) (li ops) (li ol) (li oi) o s))) s)) (expS L ((List.range' k d).map (nxG (li oms) (li ops) (li ol) (li oi) o s))):=by
 intro d
 have hp256:=h.p256
 induction d with
 | zero =>
  intro k L A hd hk hnd hall hle hA
  unfold M4
  rw [mach_Flat.L4_eq]
  simp only [bindO_s,fBin_lss,fCond_b,decide_eq_true_eq,show ¬ ((k:Int) < (prodL ((li oi).map (inAt (li oms) (li ops))):Int)) by omega,if_false,fBin_gtr,idxM_len,List.length_map,List.range'_zero,List.map_nil,expS,List.append_nil]
  by_cases g:4096 < L.length
  ·rw [if_pos (by omega),if_pos g];rfl
  ·rw [if_neg (by omega),if_neg g];rfl
 | succ d ih =>
  intro k L A hd hk hnd hall hle hA
  have hk':k < prodL ((li oi).map (inAt (li oms) (li ops))):=by omega
  have hpt:=h.pr s hps k hk'
  have hsm:=st_small h.ok h.mok hpt
  have hst:=step_g h hps k xn nm
  generalize ht:nxG (li oms) (li ops) (li ol) (li oi) o s k = t at hpt hsm hst
  have hkey:mach_netState_key (.agg [.arr (t.1.map I),.arr (t.2.map LL)]) = some (sK (kG t)):=key_ok (s:=t) (by omega) (by omega)
  have hmem:kG t ∈ L.map kG ↔ t ∈ L:=⟨fun hm => by
   obtain ⟨y,hy,e⟩:=List.mem_map.1 hm
   exact kG_inj h (hall y hy) hpt e ▸ hy,fun hm => List.mem_map_of_mem hm⟩
  have hlook:=mLook_idx (key:=sK) (ag:=false) (sk:=[.str]) str_keyEq str_keyOk (kG t) (L.map kG)
  have w:IntKind.i64.wrap ((k:Int) + 1) = ((k + 1:Nat):Int):=wrap64 (by omega) (by omega)
  have b1':(L.length + 1) * 48 ≤ room:=by unfold room;omega
  have b2':(A.length + 1) * 32 ≤ room:=by unfold room;omega
  have hexp:expS L ((List.range' k (d + 1)).map (nxG (li oms) (li ops) (li ol) (li oi) o s)) = expS (addS L t) ((List.range' (k + 1) d).map (nxG (li oms) (li ops) (li ol) (li oi) o s)):=by
   rw [List.range'_succ,List.map_cons,expS,ht]
  have e0:M4 oms ops ol oi oo o xn nm b1 b2 s i k A L = M4 oms ops ol oi oo o xn nm b1 b2 s i (k + 1) (A ++ [((pos t (addS L t):Int),some (syG (li oms) (li ops) (li ol) (li oi) (li oo) o s k),())]) (addS L t):=by
   unfold M4
   rw [mach_Flat.L4_eq]
   simp only [bindO_s,fBin_lss,fCond_b,decide_eq_true_eq,show ((k:Int) < (prodL ((li oi).map (inAt (li oms) (li ops))):Int)) by omega,if_true,digits_g h (show k < 1000000 by omega),hst,fIsTup_tup,List.length_cons,List.length_nil,fTup_zero,fTup_succ,fIsAgg_agg,SgV,fCell_zero,fCell_succ]
   rw [show (0 + 1 + 1 == 2) = true from rfl,gB_t,gB_t,hkey]
   simp only [bindO_s,hlook,fUn_not,fCond_b]
   by_cases g:t ∈ L
   ·have g2:=hmem.2 g
    have hp:pos (kG t) (L.map kG) = pos t L:=pos_mapI L fun y hy e => kG_inj h hpt (hall y hy) e
    rw [show addS L t = L from if_pos g]
    simp only [g2,decide_true,Bool.not_true,Bool.false_eq_true,if_false,if_true,hp,List.length_map,b2',gB_t,fBin_add,bindO_s,w,List.map_append,List.map_cons,List.map_nil]
    rfl
   ·have g2:kG t ∉ L.map kG:=fun e => g (hmem.1 e)
    have hput:=mPut_idx (key:=sK) (ag:=false) (sk:=[.str]) str_keyEq (kG t) (L.map kG) 0 g2
    rw [Nat.zero_add,List.length_map] at hput
    rw [show addS L t = L ++ [t] from if_neg g,pos_new g]
    simp only [g2,decide_false,Bool.not_false,if_true,if_false,idxM_len,List.length_map]
    rw [show keyOk false [.str] (sK (kG t)) = true from rfl,gB_t]
    simp only [hput,bindO_s,b1',b2',decide_true,gB_t,fBin_add,w,List.map_append,List.map_cons,List.map_nil]
    rfl
  rw [e0,hexp]
  have hnd':=addS_nd hnd t
  have hall':=addS_all hall hpt
  have hlen:(addS L t).length ≤ L.length + 1:=by
   unfold addS;split <;> simp
  rw [ih (k + 1) (addS L t) _ (by omega) (by omega) hnd' hall' (by omega) (by simp;omega)]
  have hrow:rowK (nxG (li oms) (li ops) (li ol) (li oi) o) (syG (li oms) (li ops) (li ol) (li oi) (li oo) o) (expS (addS L t) ((List.range' (k + 1) d).map (nxG (li oms) (li ops) (li ol) (li oi) o s))) s k = ((pos t (addS L t):Int),some (syG (li oms) (li ops) (li ol) (li oi) (li oo) o s k),()):=by
   obtain ⟨M,hM⟩:=expS_pre ((List.range' (k + 1) d).map (nxG (li oms) (li ops) (li ol) (li oi) o s)) (addS L t)
   rw [hM];unfold rowK;rw [ht,pos_app M (addS_mem L t)]
  rw [List.range'_succ,List.map_cons,hrow,List.append_assoc,List.singleton_append]
theorem mf_L3 (xn nm b1 b2:FV):∀ (f i:Nat) (L:List Sg),4097 ≤ f + i → i ≤ L.length → Met (prodL ((li oi).map (inAt (li oms) (li ops)))) (nxG (li oms) (li ops) (li ol) (li oi) o) (PrG (li oms) (li ops) (li ol)) i L →
  M3 oms ops ol oi oo o xn nm b1 b2 i (accR (prodL ((li oi).map (inAt (li oms) (li ops)))) (nxG (li oms) (li ops) (li ol) (li oi) o) (syG (li oms) (li ops) (li ol) (li oi) (li oo) o) L (L.take i)) L =
  match bfsS (prodL ((li oi).map (inAt (li oms) (li ops)))) (nxG (li oms) (li ops) (li ol) (li oi) o) f i L with
  | none => some (errF 26)
  | some L' => M3 oms ops ol oi oo o xn nm b1 b2 L'.length (accR (prodL ((li oi).map (inAt (li oms) (li ops)))) (nxG (li oms) (li ops) (li ol) (li oi) o) (syG (li oms) (li ops) (li ol) (li oi) (li oo) o) L' L') L':=by
 intro f
 induction f with
 | zero => intro i L hf hi hM;have:=hM.le;omega
 | succ f ih =>
  intro i L hf hi hM
  have hle:=hM.le
  have hp:=h.p256
  cases hc:L[i]? with
  | none =>
   have e:i = L.length:=by have:=List.getElem?_eq_none_iff.1 hc;omega
   subst e
   unfold bfsS
   simp only [hc,List.take_length]
  | some s =>
   have hi':=(List.getElem?_eq_some_iff.1 hc).1
   have hal:(accR (prodL ((li oi).map (inAt (li oms) (li ops)))) (nxG (li oms) (li ops) (li ol) (li oi) o) (syG (li oms) (li ops) (li ol) (li oi) (li oo) o) L (L.take i)).length ≤ 1048576:=by
    rw [accR_len]
    have:(L.take i).length * prodL ((li oi).map (inAt (li oms) (li ops))) ≤ 4096 * 256:=Nat.mul_le_mul (by simp;omega) hp
    omega
   have w:IntKind.i64.wrap ((i:Int) + 1) = ((i + 1:Nat):Int):=wrap64 (by omega) (by omega)
   have hgS:(L.map SgV)[i]? = some (SgV s):=by rw [List.getElem?_map,hc];rfl
   have k1:=mf_L4 h (hM.all s (List.mem_of_getElem? hc)) (i:=i + 1) xn nm b1 b2 _ 0 L (accR (prodL ((li oi).map (inAt (li oms) (li ops)))) (nxG (li oms) (li ops) (li ol) (li oi) o) (syG (li oms) (li ops) (li ol) (li oi) (li oo) o) L (L.take i)) rfl (Nat.zero_le _) hM.nd hM.all (by omega) (by omega)
   have e0:M3 oms ops ol oi oo o xn nm b1 b2 i (accR (prodL ((li oi).map (inAt (li oms) (li ops)))) (nxG (li oms) (li ops) (li ol) (li oi) o) (syG (li oms) (li ops) (li ol) (li oi) (li oo) o) L (L.take i)) L =
     M4 oms ops ol oi oo o xn nm b1 b2 s (i + 1) 0 (accR (prodL ((li oi).map (inAt (li oms) (li ops)))) (nxG (li oms) (li ops) (li ol) (li oi) o) (syG (li oms) (li ops) (li ol) (li oi) (li oo) o) L (L.take i)) L:=by
    unfold M3
    rw [mach_Flat.L3_eq]
    simp only [bindO_s,fBin_eql,fUn_not,fCond_b,List.length_map,show ¬ ((i:Int) = (L.length:Int)) by omega,decide_false,Bool.not_false,if_true,rIdx_at (show i < (L.map SgV).length by simpa using hi'),rGet_at hgS,SgV,List.getElem?_cons_zero,List.getElem?_cons_succ,fBin_add,w]
    rfl
   rw [Nat.sub_zero,show expS L ((List.range' 0 (prodL ((li oi).map (inAt (li oms) (li ops))))).map (nxG (li oms) (li ops) (li ol) (li oi) o s)) = rnd (prodL ((li oi).map (inAt (li oms) (li ops)))) (nxG (li oms) (li ops) (li ol) (li oi) o) L s from rfl] at k1
   rw [e0,k1]
   unfold bfsS
   simp only [hc]
   by_cases g:4096 < (rnd (prodL ((li oi).map (inAt (li oms) (li ops)))) (nxG (li oms) (li ops) (li ol) (li oi) o) L s).length
   ·rw [if_pos g,if_pos g]
   ·have hlen:=expS_len ((List.range' 0 (prodL ((li oi).map (inAt (li oms) (li ops))))).map (nxG (li oms) (li ops) (li ol) (li oi) o s)) L
    have j1:=ih (i + 1) _ (by omega) (by unfold rnd;omega) (hM.step h.pr hc (by omega))
    rw [accR_next hM hc] at j1
    rw [if_neg g,if_neg g]
    exact j1
end
end Go.Proofs.Ytelcbakleaaneaa
end
section
namespace Go.Proofs.Ytelcbakleaaneaa
open Go Go.Proofs.Ytelcbakleaaneaa.VM
theorem dyn_out (a b c d e f g h i:FV):callDyn true (.func 127 []) [.agg [a,b],.agg [c,d,e,f,g],.agg [h,i]] = mach_out (.agg [a,b]) (.agg [c,d,e,f,g]) (.agg [h,i]):=by kernel_rfl
theorem clone_names {v:Option (List Str)} (hv:(li v).length ≤ 1000000):slices_Clone_string (sl S v) = some (.arr ((li v).map S)):=by
 rw [slices_Clone_string.eq]
 simp only [asRows_sl,bindO_s,rowsSz_map (fun s => S_len s),gB_t,List.length_map,show (0 + (li v).length) * 16 ≤ room by unfold room;omega,decide_true,List.nil_append,onFV_sl]
section
variable {oms:Option (List TMach)} {ops:Option (List TPart)} {ol:Option (List TLink)} {oi oo:Option (List TPin)} {o:List Nat} (h:FlN (li oms) (li ops) (li ol) (li oi) (li oo) o)
include h
theorem outs_L0 (x5 x6 x8 x9 x10 x11:FV):∀ (t:List TPin) (k:Nat),(li oo).drop k = t →
  mach_runner_ports.L0 (.func 127 []) (sl PN oo) (.int .i64 ((li oo).length:Int)) (.int .i64 (k:Int)) (sl MC oms) x5 x6 (sl PT ops) x8 x9 x10 x11 ((((li oo).take k).map (outAt (li oms) (li ops))).map P) = some (.arr (((li oo).map (outAt (li oms) (li ops))).map P)):=by
 intro t
 have ho8:=h.o8
 induction t with
 | nil =>
  intro k hd
  have hk:=drop_nil hd
  rw [mach_runner_ports.L0_eq,List.take_of_length_le (by omega)]
  simp only [fLen_sl,bindO_s,fCond_b,fBin_lss,decide_eq_true_eq,Int.ofNat_lt,hk,if_false]
 | cons q t ih =>
  intro k hd
  obtain ⟨hk,hn,hs'⟩:=drop_cons hd
  have e1:IntKind.i64.wrap ((k:Int) + 1) = ((k + 1:Nat):Int):=wrap64 (by omega) (by omega)
  have hin:=mach_out_ok h.ok.pin x5 x6 x8 x9 x10 (h.ok.ook q (List.mem_of_getElem? hn))
  have hlen:(((li oo).take k).length + 1) * 40 ≤ room:=by unfold room;simp;omega
  have ih':=ih (k + 1) hs'
  rw [List.take_add_one,hn] at ih'
  rw [mach_runner_ports.L0_eq]
  simp only [bindO_s,fCond_b,fBin_lss,decide_eq_true_eq,Int.ofNat_lt,hk,if_true,idx_sl hn (PN_len q),PN_zero,PN_one,dyn_out,hin,P,fIsAgg_agg,List.length_cons,List.length_nil,fCell_zero,fCell_succ,List.length_map,hlen,decide_true,gB_t,fBin_add,e1]
  rw [show (0 + 1 + 1 == 2) = true from rfl,gB_t]
  rw [← ih',List.map_append,List.map_append]
  rfl
theorem outs_ok (xn x0 x2 x4 x5:FV):mach_runner_ports (.agg [sl MC oms,xn,x0,sl PT ops,x2,x4,sl PN oo,x5]) (sl PN oo) (.func 127 []) = some (.arr (((li oo).map (outAt (li oms) (li ops))).map P)):=by
 rw [mach_runner_ports.eq]
 simp only [fIsAgg_agg,List.length_cons,List.length_nil,fCell_zero,fCell_succ,fLen_sl,bindO_s]
 rw [show (0 + 1 + 1 + 1 + 1 + 1 + 1 + 1 + 1 == 8) = true from rfl,gB_t]
 exact outs_L0 h xn x0 x2 x4 (sl PN oo) x5 _ 0 rfl
theorem mf_L1 (x3 x4 x5 x6 xn nm x11 x14 x19 x20:FV) (r15 r16 r17 r18 r21 r23 r24:List (List FV)):∀ (t:List TPort) (k:Nat) (acc:List TPort),((li oi).map (inAt (li oms) (li ops))).drop k = t → acc.length = k →
  mach_Flat.L1 (.arr (((li oi).map (inAt (li oms) (li ops))).map P)) (.int .i64 (((li oi).map (inAt (li oms) (li ops))).length:Int)) (.int .i64 (k:Int)) x3 x4 x5 x6 (sl MC oms) xn nm (sl PT ops) x11 (sl PN oi) (sl PN oo) x14 r15 r16 r17 r18 x19 x20 r21 (acc.map P) r23 r24 =
  mach_Flat.L2 (.arr (((li oo).map (outAt (li oms) (li ops))).map P)) (.int .i64 (((li oo).map (outAt (li oms) (li ops))).length:Int)) (.int .i64 0) x3 x4 x5 x6 (sl MC oms) xn nm (sl PT ops) x11 (sl PN oi) (sl PN oo) x14 r15 r16 r17 r18 x19 x20 r21 ((acc ++ nmP 105 k t).map P) r24 r23:=by
 intro t
 have hi8:=h.i8
 have hL:=inAt_lens h.ok h.mok
 generalize hps:(li oi).map (inAt (li oms) (li ops)) = ps at hL
 have hpl:ps.length ≤ 8:=by rw [← hps];simpa using hi8
 induction t with
 | nil =>
  intro k acc hd ha
  rw [mach_Flat.L1_eq]
  simp only [bindO_s,fBin_lss,fCond_b,decide_eq_true_eq,Int.ofNat_lt,drop_nil hd,if_false,nmP,List.append_nil,outs_ok h,fLen_arr,List.length_map]
 | cons q t ih =>
  intro k acc hd ha
  obtain ⟨hk,hn,hs⟩:=drop_cons hd
  have w:IntKind.i64.wrap ((k:Int) + 1) = ((k + 1:Nat):Int):=wrap64 (by omega) (by omega)
  have hl:=hL _ (List.mem_of_getElem? hn)
  have hg:(ps.map P)[k]? = some (P q):=by rw [List.getElem?_map,hn];rfl
  have b2:(acc.length + 1) * 40 ≤ room:=by unfold room;omega
  have ih':=ih (k + 1) (acc ++ [(105 :: dec k,some (li q.2.1),())]) hs (by simp [ha])
  rw [mach_Flat.L1_eq]
  simp only [bindO_s,fBin_lss,fCond_b,decide_eq_true_eq,Int.ofNat_lt,hk,if_true,idx_arr hg (P_len q),P_zero,P_one,dec_mach (show k < 10000 by omega),add_dec,clone_names (show (li q.2.1).length ≤ 1000000 by omega),arrRows_arr,List.length_map,b2,decide_true,gB_t,fBin_add,w]
  rw [show acc.map P ++ [[FV.str (105 :: dec k),.arr ((li q.2.1).map S)]] = (acc ++ [((105 :: dec k,some (li q.2.1),()):TPort)]).map P by simp [P,sl]]
  rw [ih',nmP,List.append_assoc,List.singleton_append]
  simp only [List.length_map]
theorem mf_L2 (nm:Str) (xn:FV) (A:List TPort) (hA:A = insG (li oms) (li ops) (li oi)):∀ (t:List TPort) (k:Nat) (acc:List TPort),((li oo).map (outAt (li oms) (li ops))).drop k = t → acc.length = k → acc ++ nmP 111 k t = outsG (li oms) (li ops) (li oo) →
  mach_Flat.L2 (.arr (((li oo).map (outAt (li oms) (li ops))).map P)) (.int .i64 (((li oo).map (outAt (li oms) (li ops))).length:Int)) (.int .i64 (k:Int)) (sl MC oms) xn (.str []) (.int .i64 0) (sl MC oms) xn (.str nm) (sl PT ops) (sl LK ol) (sl PN oi) (sl PN oo) (.arr (o.map numR)) [] [] [] [] (.str nm) (.int .i64 0) [] (A.map P) [] (acc.map P) =
  M3 oms ops ol oi oo o xn (.str nm) (.arr ((sts0 (li oms) (li ops)).map I)) (.arr ((q0 (li ol)).map LL)) 0 [] [s0G (li oms) (li ops) (li ol)]:=by
 intro t
 have ho8:=h.o8
 have hi8:=h.i8
 have hp256:=h.p256
 have hL:=outAt_lens h.ok h.mok
 generalize hps:(li oo).map (outAt (li oms) (li ops)) = ps at hL
 have hpl:ps.length ≤ 8:=by rw [← hps];simpa using ho8
 induction t with
 | nil =>
  intro k acc hd ha hfin
  have hst:PrG (li oms) (li ops) (li ol) (s0G (li oms) (li ops) (li ol)):=st0_ok h.ok h.mok
  have hsm:=st_small h.ok h.mok hst
  have hkey:mach_netState_key (.agg [.arr ((sts0 (li oms) (li ops)).map I),.arr ((q0 (li ol)).map LL)]) = some (sK (kG (s0G (li oms) (li ops) (li ol)))):=key_ok (s:=s0G (li oms) (li ops) (li ol)) (by omega) (by omega)
  have hlook:=mLook_idx (key:=sK) (ag:=false) (sk:=[.str]) str_keyEq str_keyOk (kG (s0G (li oms) (li ops) (li ol))) []
  have hput:=mPut_idx (key:=sK) (ag:=false) (sk:=[.str]) str_keyEq (kG (s0G (li oms) (li ops) (li ol))) [] 0 (by simp)
  have hprod:=mach_product_ok (o:=some (insG (li oms) (li ops) (li oi))) (by simp only [li_some,insG,nmP_len,List.length_map];omega) (nmP_lens 105 0 (inAt_lens h.ok h.mok))
  have hcap:capP (prodL (li (some (insG (li oms) (li ops) (li oi))))) = prodL ((li oi).map (inAt (li oms) (li ops))):=by
   simp only [li_some,insG,prodL_nm]
   unfold capP
   rw [if_neg (by omega)]
  rw [hcap] at hprod
  simp only [nmP,List.append_nil] at hfin
  have hprod':mach_product (.arr ((insG (li oms) (li ops) (li oi)).map P)) = _:=hprod
  have hlook':mLook false [.str] [] (sK (kG (s0G (li oms) (li ops) (li ol)))) (.int .i64 0) = _:=hlook
  have hput':mPut false [.str] [] (sK (kG (s0G (li oms) (li ops) (li ol)))) (.int .i64 ((([]:List (FV × FV)).length:Nat):Int)) = _:=hput
  subst hA
  rw [mach_Flat.L2_eq]
  simp only [bindO_s,fBin_lss,fCond_b,decide_eq_true_eq,Int.ofNat_lt,drop_nil hd,if_false,begin_ok h.ok,fIsAgg_agg,List.length_cons,List.length_nil,fCell_zero,fCell_succ]
  rw [show (0 + 1 + 1 == 2) = true from rfl,gB_t,hkey]
  simp only [bindO_s]
  rw [hlook']
  simp only [bindO_s,List.not_mem_nil,decide_false,fUn_not,Bool.not_false,fCond_b,if_true]
  rw [show keyOk false [.str] (sK (kG (s0G (li oms) (li ops) (li ol)))) = true from rfl,gB_t,show (FV.int .i64 ((0:Nat):Int)) = FV.int .i64 ((([]:List (FV × FV)).length:Nat):Int) from rfl,hput']
  simp only [bindO_s,show 1 * 48 ≤ room by unfold room;omega,decide_true,gB_t,hprod',hfin]
  rfl
 | cons q t ih =>
  intro k acc hd ha hfin
  obtain ⟨hk,hn,hs⟩:=drop_cons hd
  have w:IntKind.i64.wrap ((k:Int) + 1) = ((k + 1:Nat):Int):=wrap64 (by omega) (by omega)
  have hl:=hL _ (List.mem_of_getElem? hn)
  have hg:(ps.map P)[k]? = some (P q):=by rw [List.getElem?_map,hn];rfl
  have b2:(acc.length + 1) * 40 ≤ room:=by unfold room;omega
  have ih':=ih (k + 1) (acc ++ [(111 :: dec k,some (li q.2.1),())]) hs (by simp [ha]) (by rw [← hfin,nmP,List.append_assoc,List.singleton_append])
  rw [mach_Flat.L2_eq]
  simp only [bindO_s,fBin_lss,fCond_b,decide_eq_true_eq,Int.ofNat_lt,hk,if_true,idx_arr hg (P_len q),P_zero,P_one,dec_mach (show k < 10000 by omega),add_dec,clone_names (show (li q.2.1).length ≤ 1000000 by omega),arrRows_arr,List.length_map,b2,decide_true,gB_t,fBin_add,w]
  rw [show acc.map P ++ [[FV.str (111 :: dec k),.arr ((li q.2.1).map S)]] = (acc ++ [((111 :: dec k,some (li q.2.1),()):TPort)]).map P by simp [P,sl]]
  exact ih'
end
theorem mf_L5 {n:Nat} (hn:n ≤ 4096) (x2 x3 x4 x5 x6 x7 x8 x9 x10 x11 x12 x13 x18 x19 x24 x25 x26 x31 x32 x33 x34 x35:FV) (r14 r15 r16 r17 r20 r21 r22 r27 r28 r29:List (List FV)) (es23:List (FV × FV)):∀ (d k:Nat),n - k = d → k ≤ n →
  mach_Flat.L5 (.int .i64 (n:Int)) (.int .i64 (k:Int)) x2 x3 x4 x5 x6 x7 x8 x9 x10 x11 x12 x13 r14 r15 r16 r17 x18 x19 r20 r21 r22 es23 x24 x25 x26 r27 r28 r29 ((qN k).map S ++ List.replicate (n - k) [FV.str []]) x31 x32 x33 x34 x35 =
  bindO (mach_Check (.agg [x31,.arr ((qN n).map S),x32,x33,x34,x35])) fun v43 => bindO (fBin .neq v43 (.int .i64 0)) fun v44 => fCond v44 (some (.tup [.agg [.str [],.nilS,.int .i64 0,.nilS,.nilS,.nilS],v43])) (some (.tup [.agg [x31,.arr ((qN n).map S),x32,x33,x34,x35],.int .i64 0])):=by
 intro d
 induction d with
 | zero =>
  intro k hd hk
  have e:k = n:=by omega
  subst e
  rw [mach_Flat.L5_eq]
  simp only [bindO_s,fBin_lss,fCond_b,decide_eq_true_eq,Int.ofNat_lt,Nat.lt_irrefl,if_false,Nat.sub_self,List.replicate_zero,List.append_nil]
 | succ d ih =>
  intro k hd hk
  have w:IntKind.i64.wrap ((k:Int) + 1) = ((k + 1:Nat):Int):=wrap64 (by omega) (by omega)
  have ih':=ih (k + 1) (by omega) (by omega)
  have hlen:((qN k).map S ++ List.replicate (n - k) [FV.str []]).length = n:=by simp [qN_len];omega
  have hg:((qN k).map S ++ List.replicate (n - k) [FV.str []])[k]? = some [FV.str []]:=by
   rw [List.getElem?_append_right (by simp [qN_len])]
   rw [List.length_map,qN_len,Nat.sub_self,List.getElem?_replicate,if_pos (by omega)]
  have hset:((qN k).map S ++ List.replicate (n - k) [FV.str []]).set k [FV.str (113 :: dec k)] = (qN (k + 1)).map S ++ List.replicate (n - (k + 1)) [FV.str []]:=by
   rw [List.set_append_right _ _ (by simp [qN_len]),show n - k = (n - (k + 1)) + 1 by omega,List.replicate_succ,qN_succ]
   simp [qN_len,S]
  rw [mach_Flat.L5_eq]
  simp only [bindO_s,fBin_lss,fCond_b,decide_eq_true_eq,Int.ofNat_lt,show k < n by omega,if_true,dec_mach (show k < 10000 by omega),add_dec,rIdx_at (show k < ((qN k).map S ++ List.replicate (n - k) [FV.str []]).length by omega),rSet_one hg,hset,fBin_add,w]
  exact ih'
section
variable {oms:Option (List TMach)} {ops:Option (List TPart)} {ol:Option (List TLink)} {oi oo:Option (List TPin)} {o:List Nat} (h:FlN (li oms) (li ops) (li ol) (li oi) (li oo) o)
include h
theorem mf_end {L:List Sg} {A:List TRow} (nm:Str) (xn b1 b2:FV) (hL:L.length ≤ 4096) {n:Nat} {Rw:List TRow} (hn:n ≤ 4096)
  (h1:mach_minimalOf (.agg [.str nm,.arr (List.replicate L.length [FV.str []]),.int .i64 0,.arr ((insG (li oms) (li ops) (li oi)).map P),.arr ((outsG (li oms) (li ops) (li oo)).map P),.arr (A.map RW)]) = some (.agg [.str nm,.arr (List.replicate n [FV.str []]),.int .i64 0,.arr ((insG (li oms) (li ops) (li oi)).map P),.arr ((outsG (li oms) (li ops) (li oo)).map P),.arr (Rw.map RW)]))
  (hsm:SmM (nm,some (qN n),0,some (insG (li oms) (li ops) (li oi)),some (outsG (li oms) (li ops) (li oo)),some Rw,())) :
  M3 oms ops ol oi oo o xn (.str nm) b1 b2 L.length A L = some (resF (nm,some (qN n),0,some (insG (li oms) (li ops) (li oi)),some (outsG (li oms) (li ops) (li oo)),some Rw,())):=by
 unfold M3
 rw [mach_Flat.L3_eq]
 simp only [bindO_s,fBin_eql,fUn_not,fCond_b,List.length_map,decide_true,Bool.not_true,Bool.false_eq_true,if_false,idxM_len,asNat_nat,Nat.le_refl,show L.length * 16 ≤ room by unfold room;omega,Bool.and_self,ge_iff_le,gB_t,h1,fIsAgg_agg,List.length_cons,List.length_nil,fCell_zero,fCell_succ,arrRows_arr,List.length_replicate]
 rw [show (0 + 1 + 1 + 1 + 1 + 1 + 1 == 6) = true from rfl,gB_t]
 refine Eq.trans (mf_L5 hn _ _ _ _ _ _ _ _ _ _ _ _ _ _ _ _ _ _ _ _ _ _ _ _ _ _ _ _ _ _ _ _ _ _ 0 rfl (Nat.zero_le _)) ?_
 have hc:mach_Check (.agg [.str nm,.arr ((qN n).map S),.int .i64 0,.arr ((insG (li oms) (li ops) (li oi)).map P),.arr ((outsG (li oms) (li ops) (li oo)).map P),.arr (Rw.map RW)]) = _:=mach_check_ok hsm
 rw [hc]
 simp only [bindO_s,fBin_neq,fCond_b,decide_eq_true_eq]
 unfold resF
 by_cases g:checkP (nm,some (qN n),0,some (insG (li oms) (li ops) (li oi)),some (outsG (li oms) (li ops) (li oo)),some Rw,()) ≠ 0
 ·rw [if_pos g,if_pos g];rfl
 ·rw [if_neg g,if_neg g];rfl
end
end Go.Proofs.Ytelcbakleaaneaa
end
section
namespace Go.Proofs.Ytelcbakleaaneaa
open Go Go.Proofs.Ytelcbakleaaneaa.VM
theorem digs_numGo:∀ (ps:List TPort) (vs:List Int) (a:Nat),ps.length = vs.length → fitGo ps vs = true → digs ps (numGo ps vs a) = (vs,a)
 | [],[],a,_,_ => rfl
 | p :: ps,v :: vs,a,hl,hf => by
  simp only [fitGo,Bool.and_eq_true,decide_eq_true_eq] at hf
  have ih:=digs_numGo ps vs (a * (li p.2.1).length + v.toNat) (by simpa using hl) hf.2
  have hv:v.toNat < (li p.2.1).length:=by omega
  simp only [numGo,digs,ih]
  rw [show a * (li p.2.1).length + v.toNat = v.toNat + (li p.2.1).length * a by rw [Nat.mul_comm];omega,Nat.add_mul_mod_self_left,Nat.mod_eq_of_lt hv,Nat.add_mul_div_left _ _ (by omega),Nat.div_eq_of_lt hv,Nat.zero_add,show ((v.toNat:Nat):Int) = v by omega]
theorem fitG_map {α:Type} {f:α → TPort} {g:α → Int}:∀ l:List α,(∀ x ∈ l,0 ≤ g x ∧ g x < ((li (f x).2.1).length:Int)) → fitP (l.map f) (l.map g) = true:=by
 intro l hl
 have key:fitGo (l.map f) (l.map g) = true:=by
  induction l with
  | nil => rfl
  | cons x l ih =>
   have:=hl x (by simp)
   simp only [List.map_cons,fitGo,ih fun y hy => hl y (by simp [hy]),Bool.and_true,Bool.and_eq_true,decide_eq_true_eq]
   exact this
 simp only [fitP,List.length_map,decide_true,key,Bool.and_self]
section
variable {ms:List TMach} {ps:List TPart} {ls:List TLink} {is os:List TPin} {o:List Nat} (h:FlN ms ps ls is os o)
include h
theorem syG_fit {s:Sg} (hs:PrG ms ps ls s) (k:Nat):fitP (outsG ms ps os) (syG ms ps ls is os o s k) = true:=by
 have hsol:=sol_ok h.ok h.mok (digs_fit _ k (inAt_lens h.ok h.mok)) hs (solW_eq h.ok h.ord)
 unfold outsG
 rw [fitP_nm]
 refine fitG_map os fun p hp => ?_
 obtain ⟨o0,o1,o2,o3⟩:=isOutB_iff.1 (h.ok.ook p hp)
 have hu:=hsol p.1.toNat (by omega)
 simp only [fitP,Bool.and_eq_true,decide_eq_true_eq] at hu
 rw [show ((p.1.toNat:Nat):Int) = p.1 by omega] at hu
 have hk':p.2.1.toNat < (outsAt ms ps p.1).length:=by omega
 have hg1:(outsAt ms ps p.1)[p.2.1.toNat]? = some (outAt ms ps p):=by
  simp only [outAt,List.getD_eq_getElem?_getD,List.getElem?_eq_getElem hk',Option.getD_some]
 have hg2:=List.getElem?_eq_getElem (show p.2.1.toNat < (li (solW ms ps is (digs (is.map (inAt ms ps)) k).1 ls s.2 s.1 o p.1.toNat).2.1).length by omega)
 have:=fitGo_get hu.2 p.2.1.toNat _ _ hg1 hg2
 unfold solG ltr
 rw [List.getD_eq_getElem?_getD,hg2,Option.getD_some]
 exact this
variable {L:List Sg} (hM:Met (prodL (is.map (inAt ms ps))) (nxG ms ps ls is o) (PrG ms ps ls) L.length L) (h1:1 ≤ L.length)
include hM h1
theorem okW_flat:OkW (List.replicate L.length []) 0 (insG ms ps is) (outsG ms ps os) (accR (prodL (is.map (inAt ms ps))) (nxG ms ps ls is o) (syG ms ps ls is os o) L L):=by
 have hp:=h.p256
 have hle:=hM.le
 have hi8:=h.i8
 have ho8:=h.o8
 have hmul:L.length * prodL (is.map (inAt ms ps)) ≤ 4096 * 256:=Nat.mul_le_mul hle hp
 have epl:prodL (insG ms ps is) = prodL (is.map (inAt ms ps)):=prodL_nm _ _ _
 refine ⟨⟨by simpa using h1,by simpa using hle⟩,by simp [insG,nmP_len];omega,by simp [outsG,nmP_len];omega,nmP_lens _ _ (inAt_lens h.ok h.mok),nmP_lens _ _ (outAt_lens h.ok h.mok),⟨by omega,by simp;omega⟩,by omega,by rw [List.length_replicate,epl];omega,by rw [accR_len,List.length_replicate,epl],fun r hr => ?_⟩
 unfold accR at hr
 obtain ⟨s,hs,hr2⟩:=List.mem_flatMap.1 hr
 obtain ⟨k,hk,rfl⟩:=List.mem_map.1 hr2
 have hk':k < prodL (is.map (inAt ms ps)):=by simp [List.mem_range'] at hk;omega
 have hcl:=hM.cl s (by rw [List.take_length];exact hs) k hk'
 have hlt:=pos_lt hcl
 simp only [rowOk,rowK,li_some,Bool.and_eq_true,decide_eq_true_eq,List.length_replicate]
 exact ⟨⟨decide_eq_true (Int.natCast_nonneg _),Int.ofNat_lt.2 hlt⟩,syG_fit h (hM.all s hs) k⟩
theorem row_flat {a k:Nat} {s:Sg} (hs:L[a]? = some s) (hk:k < prodL (is.map (inAt ms ps))):rowN (accR (prodL (is.map (inAt ms ps))) (nxG ms ps ls is o) (syG ms ps ls is os o) L L) (prodL (is.map (inAt ms ps))) a k = rowK (nxG ms ps ls is o) (syG ms ps ls is os o) L s k:=by
 unfold rowN
 rw [List.getD_eq_getElem?_getD,accR_get L L a k s hs hk];rfl
theorem rowsM_flat (g:Nat → Nat) (H:List Nat) (hlt:∀ x ∈ H,x < L.length):rowsM (accR (prodL (is.map (inAt ms ps))) (nxG ms ps ls is o) (syG ms ps ls is os o) L L) (prodL (is.map (inAt ms ps))) g H = rowsL (accR (prodL (is.map (inAt ms ps))) (nxG ms ps ls is o) (syG ms ps ls is os o) L L) (prodL (is.map (inAt ms ps))) g H:=by
 unfold rowsM rowsL
 simp only [List.flatMap]
 congr 1
 refine List.map_congr_left fun s hs => List.map_congr_left fun k hk => ?_
 have hk':k < prodL (is.map (inAt ms ps)):=by simp [List.mem_range'] at hk;omega
 have e:=row_flat h hM h1 (List.getElem?_eq_getElem (hlt s hs)) hk'
 unfold rowT
 rw [e]
 unfold syR
 rw [e]
 rfl
theorem run_flat:∀ (xs:List (Option (List Int))) (a:Nat) (s:Sg),L[a]? = some s → fitAll (is.map (inAt ms ps)) xs = true →
  (runM (insG ms ps is) (accR (prodL (is.map (inAt ms ps))) (nxG ms ps ls is o) (syG ms ps ls is os o) L L) a xs).1 = netGo ms ps ls is os o s.1 s.2 xs
 | [],_,_,_,_ => rfl
 | x :: xs,a,s,hs,hf => by
  simp only [fitAll,List.all_cons,Bool.and_eq_true] at hf
  have hfit:=hf.1
  simp only [fitP,Bool.and_eq_true,decide_eq_true_eq] at hfit
  have hk:=numGo_lt _ _ 0 hfit.1 hfit.2
  have hk':numGo (is.map (inAt ms ps)) (li x) 0 < prodL (is.map (inAt ms ps)):=by omega
  have hd:ltr ms ps is (numGo (is.map (inAt ms ps)) (li x) 0) = li x:=by unfold ltr;rw [digs_numGo _ _ _ hfit.1 hfit.2]
  have hrow:rowAt (insG ms ps is) (accR (prodL (is.map (inAt ms ps))) (nxG ms ps ls is o) (syG ms ps ls is os o) L L) a (li x) = rowK (nxG ms ps ls is o) (syG ms ps ls is os o) L s (numGo (is.map (inAt ms ps)) (li x) 0):=by
   rw [← row_flat h hM h1 hs hk']
   unfold rowAt rowN insG
   rw [prodL_nm,numGo_nm]
  have hcl:=hM.cl s (by rw [List.take_length];exact List.mem_of_getElem? hs) _ hk'
  have ih:=run_flat xs (pos (nxG ms ps ls is o s (numGo (is.map (inAt ms ps)) (li x) 0)) L) _ (pos_get hcl) hf.2
  simp only [runM,netGo,hrow,rowK,li_some,Int.toNat_natCast]
  rw [ih]
  simp only [nxG,syG,solG,hd]
end
end Go.Proofs.Ytelcbakleaaneaa
end
section
namespace Go.Proofs.Ytelcbakleaaneaa
open Go Go.Proofs.Ytelcbakleaaneaa.VM
theorem law_err {x i xs:FV} {a b:FV} {c:Int} (hx:x = .agg [a,b]) (hc:c ≠ 0) (h1:ref02_Flat (.agg [a,b]) i = some (errF c)) (h2:mach_Flat (.agg [a,b]) i = some (errF c)):law02_MachFlat x i xs = some (.bool true):=by
 subst hx
 have hs:ref02_SameMachine (.agg [.str [],.nilS,.int .i64 0,.nilS,.nilS,.nilS]) (.agg [.str [],.nilS,.int .i64 0,.nilS,.nilS,.nilS]) = _:=sameMachine_self (nm:=[]) (sts:=none) (start:=0) (ins:=none) (outs:=none) (rows:=none) ⟨by simp,⟨by simp,by simp⟩,⟨by simp,by simp⟩,⟨by simp,by simp⟩,by simp,by simp⟩
 rw [law02_MachFlat.eq]
 simp only [fIsAgg_agg,List.length_cons,List.length_nil,fCell_zero,fCell_succ,h1,h2,bindO_s,errF,fIsTup_tup,fTup_zero,fTup_succ,fBin_neq,ne_eq,not_true_eq_false,decide_false,fCond_b,Bool.false_eq_true,if_false]
 rw [show (0 + 1 + 1 == 2) = true from rfl,show (0 + 1 + 1 + 1 + 1 + 1 + 1 == 6) = true from rfl,gB_t,gB_t,gB_t,gB_t,gB_t,hs]
 simp only [bindO_s,fUn_not,Bool.not_true,fCond_b,Bool.false_eq_true,if_false]
 rw [law02_MachFlat.L0_eq]
 simp only [fBin_neq,bindO_s,fCond_b,hc,not_false_eq_true,decide_true,if_true,ne_eq]
theorem law_mach {i xs:FV} {a b:FV} {m:TMach} (hm:SmM m) (hc:checkP m = 0) (h1:ref02_Flat (.agg [a,b]) i = some (resF m)) (h2:mach_Flat (.agg [a,b]) i = some (resF m))
  {A:Option (List (List Int))} {B:Int} {D:Int} (h3:mach_RunNet (.agg [a,b]) i xs = some (netF (A,B))) (h4:mach_Run (.agg (MC m)) xs = some (runF (A,D,B))) (h5:ref02_SameLists (sl LL A) (sl LL A) = some (.bool true)):law02_MachFlat (.agg [a,b]) i xs = some (.bool true):=by
 obtain ⟨nm,sts,start,ins,outs,rows,⟨⟩⟩:=m
 have hs:=sameMachine_self hm
 have e:resF (nm,sts,start,ins,outs,rows,()) = .tup [.agg [.str nm,sl S sts,.int .i64 start,sl P ins,sl P outs,sl RW rows],.int .i64 0]:=by
  unfold resF
  rw [if_neg (fun g => g hc)]
  rfl
 rw [e] at h1 h2
 have h4':mach_Run (.agg [.str nm,sl S sts,.int .i64 start,sl P ins,sl P outs,sl RW rows]) xs = _:=h4
 rw [law02_MachFlat.eq]
 simp only [fIsAgg_agg,List.length_cons,List.length_nil,fCell_zero,fCell_succ,h1,h2,bindO_s,fIsTup_tup,fTup_zero,fTup_succ,fBin_neq,ne_eq,not_true_eq_false,decide_false,fCond_b,Bool.false_eq_true,if_false,hs,fUn_not,Bool.not_true]
 rw [show (0 + 1 + 1 == 2) = true from rfl,show (0 + 1 + 1 + 1 + 1 + 1 + 1 == 6) = true from rfl,gB_t,gB_t,gB_t,gB_t,gB_t]
 rw [law02_MachFlat.L0_eq]
 simp only [fBin_neq,bindO_s,fCond_b,not_true_eq_false,decide_false,Bool.false_eq_true,if_false,ne_eq,h3,h4',netF,runF,fIsTup_tup,List.length_cons,List.length_nil,fTup_zero,fTup_succ,fBin_eql,decide_true,if_true,h5]
 rw [show (0 + 1 + 1 == 2) = true from rfl,show (0 + 1 + 1 + 1 == 3) = true from rfl,gB_t,gB_t]
section
variable {oms:Option (List TMach)} {ops:Option (List TPart)} {ol:Option (List TLink)} {oi oo:Option (List TPin)} {o o':List Nat} (h:FlN (li oms) (li ops) (li ol) (li oi) (li oo) o) (h':FlN (li oms) (li ops) (li ol) (li oi) (li oo) o')
include h h'
theorem flat_both {nm:Str} (hnm:nm.length < 1000000000000000) (xn b1 b2:FV) (hout:∀ p ∈ insG (li oms) (li ops) (li oi) ++ outsG (li oms) (li ops) (li oo),SmP p) {T:Nat → Option Nat} (hT:Tab 16384 T ([s0G (li oms) (li ops) (li ol)].map flL)) :
  (F2 oms ops ol oi oo o xn (.str []) (.int .i64 0) (.str nm) 0 T [] [s0G (li oms) (li ops) (li ol)] = some (errF 26) ∧ M3 oms ops ol oi oo o' xn (.str nm) b1 b2 0 [] [s0G (li oms) (li ops) (li ol)] = some (errF 26)) ∨
  ∃ n Rw,SmM (nm,some (qN n),0,some (insG (li oms) (li ops) (li oi)),some (outsG (li oms) (li ops) (li oo)),some Rw,()) ∧
   F2 oms ops ol oi oo o xn (.str []) (.int .i64 0) (.str nm) 0 T [] [s0G (li oms) (li ops) (li ol)] = some (resF (nm,some (qN n),0,some (insG (li oms) (li ops) (li oi)),some (outsG (li oms) (li ops) (li oo)),some Rw,())) ∧
   M3 oms ops ol oi oo o' xn (.str nm) b1 b2 0 [] [s0G (li oms) (li ops) (li ol)] = some (resF (nm,some (qN n),0,some (insG (li oms) (li ops) (li oi)),some (outsG (li oms) (li ops) (li oo)),some Rw,())) ∧
   ∀ xs,fitAll ((li oi).map (inAt (li oms) (li ops))) xs = true → (runM (insG (li oms) (li ops) (li oi)) Rw 0 xs).1 = netGo (li oms) (li ops) (li ol) (li oi) (li oo) o (sts0 (li oms) (li ops)) (q0 (li ol)) xs:=by
 have hst:PrG (li oms) (li ops) (li ol) (s0G (li oms) (li ops) (li ol)):=st0_ok h.ok h.mok
 have hsol:∀ s k,solG (li oms) (li ops) (li ol) (li oi) o' s k = solG (li oms) (li ops) (li ol) (li oi) o s k:=fun s k => wGo_same (rowOf_dep (edges h.ok)) h'.ord h.ord w0
 have hnx:nxG (li oms) (li ops) (li ol) (li oi) o' = nxG (li oms) (li ops) (li ol) (li oi) o:=by funext s k;unfold nxG;rw [hsol]
 have hsy:syG (li oms) (li ops) (li ol) (li oi) (li oo) o' = syG (li oms) (li ops) (li ol) (li oi) (li oo) o:=by funext s k;unfold syG;rw [hsol]
 have hM0:Met (prodL ((li oi).map (inAt (li oms) (li ops)))) (nxG (li oms) (li ops) (li ol) (li oi) o) (PrG (li oms) (li ops) (li ol)) 0 [s0G (li oms) (li ops) (li ol)]:=⟨by simp,fun s hs => by simp at hs;rw [hs];exact hst,by simp,fun s hs => by simp at hs⟩
 obtain ⟨r1,r2⟩:=rf_L2 h xn (.str []) (.int .i64 0) (.str nm) 4097 0 [s0G (li oms) (li ops) (li ol)] T (by omega) (by simp) hM0 hT
 have m1:=mf_L3 h' xn (.str nm) b1 b2 4097 0 [s0G (li oms) (li ops) (li ol)] (by omega) (by simp) (by rw [hnx];exact hM0)
 rw [hnx,hsy] at m1
 have hok:=bfsS_ok h.pr 4097 0 [s0G (li oms) (li ops) (li ol)] (by omega) (by simp) hM0
 generalize bfsS (prodL ((li oi).map (inAt (li oms) (li ops)))) (nxG (li oms) (li ops) (li ol) (li oi) o) 4097 0 [s0G (li oms) (li ops) (li ol)] = B at r1 r2 m1 hok
 cases B with
 | none => exact .inl ⟨r1 rfl,m1⟩
 | some L =>
  right
  obtain ⟨T',e1⟩:=r2 L rfl
  obtain ⟨hM,K,hK⟩:=hok L rfl
  have h1:1 ≤ L.length:=by rw [hK];simp
  have hle:=hM.le
  have hW:=okW_flat h hM h1
  have epl:prodL (insG (li oms) (li ops) (li oi)) = prodL ((li oi).map (inAt (li oms) (li ops))):=prodL_nm _ _ _
  obtain ⟨H,c,g,f1,f2,f3,f4,f5,f6,f7,f8,f9⟩:=flatMin_ok (nm:=nm) (sts:=some (List.replicate L.length [])) (ins:=some (insG (li oms) (li ops) (li oi))) (outs:=some (outsG (li oms) (li ops) (li oo))) (rows:=some (accR (prodL ((li oi).map (inAt (li oms) (li ops)))) (nxG (li oms) (li ops) (li ol) (li oi) o) (syG (li oms) (li ops) (li ol) (li oi) (li oo) o) L L)) hW rfl
  simp only [li_some,epl,List.length_replicate] at f1 f2 f3 f4 f5 f6 f7 f8 f9
  have hp:=h.p256
  have hrl:(rowsL (accR (prodL ((li oi).map (inAt (li oms) (li ops)))) (nxG (li oms) (li ops) (li ol) (li oi) o) (syG (li oms) (li ops) (li ol) (li oi) (li oo) o) L L) (prodL ((li oi).map (inAt (li oms) (li ops)))) (fun t => pos (c t) (H.map c)) H).length ≤ 1048576:=by
   rw [rowsL_len]
   have:H.length * prodL ((li oi).map (inAt (li oms) (li ops))) ≤ 4096 * 256:=Nat.mul_le_mul (by omega) hp
   omega
  have hsm:SmM (nm,some (qN H.length),0,some (insG (li oms) (li ops) (li oi)),some (outsG (li oms) (li ops) (li oo)),some (rowsL (accR (prodL ((li oi).map (inAt (li oms) (li ops)))) (nxG (li oms) (li ops) (li ol) (li oi) o) (syG (li oms) (li ops) (li ol) (li oi) (li oo) o) L L) (prodL ((li oi).map (inAt (li oms) (li ops)))) (fun t => pos (c t) (H.map c)) H),()):=by
   refine ⟨hnm,⟨by simp [qN_len];omega,fun s hs => ?_⟩,⟨?_,fun p hp => hout p (List.mem_append_left _ hp)⟩,⟨?_,fun p hp => hout p (List.mem_append_right _ hp)⟩,⟨by simp only [li_some];omega,fun r hr => ?_⟩⟩
   ·obtain ⟨k,_,rfl⟩:=List.mem_map.1 (show s ∈ qN H.length from hs)
    have:=dec_len k
    simp;omega
   ·have:=h.i8
    simp [insG,nmP_len];omega
   ·have:=h.o8
    simp [outsG,nmP_len];omega
   ·unfold rowsL at hr
    obtain ⟨s,hs,hr2⟩:=List.mem_flatMap.1 (show r ∈ List.flatMap _ _ from hr)
    obtain ⟨k,hk,rfl⟩:=List.mem_map.1 hr2
    have hk':k < prodL ((li oi).map (inAt (li oms) (li ops))):=by simp [List.mem_range'] at hk;omega
    have e:=row_flat h hM h1 (List.getElem?_eq_getElem (f3 s hs)) hk'
    unfold rowT syR
    rw [e]
    have:=h.o8
    simp only [li_some,rowK,syG,shown,List.length_map]
    omega
  refine ⟨H.length,_,hsm,?_,?_,fun xs hf => ?_⟩
  ·exact e1.trans (rf_end h nm xn hle (by omega) f7 f8 hsm)
  ·refine m1.trans (mf_end h' nm xn b1 b2 hle (by omega) ?_ hsm)
   rw [← rowsM_flat h hM h1 _ H f3]
   have e3:sl S (some (List.replicate L.length ([]:Str))) = .arr (List.replicate L.length [FV.str []]):=by
    show FV.arr ((List.replicate L.length ([]:Str)).map S) = _
    rw [List.map_replicate];rfl
   rw [e3] at f9
   exact f9
  ·have hs0:L[0]? = some (s0G (li oms) (li ops) (li ol)):=by rw [hK];rfl
   have j1:=run_flat h hM h1 xs 0 _ hs0 hf
   have hf':fitAll (insG (li oms) (li ops) (li oi)) xs = true:=by
    rw [← hf]
    unfold fitAll insG
    simp only [fitP_nm]
   have j2:=min_runM (sts:=some (List.replicate L.length [])) (ins:=some (insG (li oms) (li ops) (li oi))) (outs:=some (outsG (li oms) (li ops) (li oo))) (rows:=some (accR (prodL ((li oi).map (inAt (li oms) (li ops)))) (nxG (li oms) (li ops) (li ol) (li oi) o) (syG (li oms) (li ops) (li ol) (li oi) (li oo) o) L L)) hW (H:=H) (c:=c) (by simpa only [li_some,epl,List.length_replicate] using f1) f2 (by simpa only [li_some,List.length_replicate] using f3) (by simpa only [li_some,List.length_replicate] using f4) (by simpa only [li_some,epl] using f5) f6 xs 0 0 0 f6 (by simp only [li_some,List.length_replicate];omega) (Same.refl _) hf'
   simp only [li_some,epl] at j2
   rw [show cpP (insG (li oms) (li ops) (li oi)) = insG (li oms) (li ops) (li oi) from cpP_nm _ _ _] at j2
   exact j2.trans j1
end
end Go.Proofs.Ytelcbakleaaneaa
end
section
namespace Go.Proofs.Ytelcbakleaaneaa
open Go Go.Proofs.Ytelcbakleaaneaa.VM
section
variable {oms:Option (List TMach)} {ons:Option (List TNet)} (hlm:(li oms).length < 1000000000000000) (hsm:∀ m ∈ li oms,SmM m) (hns:∀ n ∈ li ons,SmN n) (i:Int)
include hlm hsm hns
theorem machNet_ok {ox:Option (List (Option (List Int)))} (hlo:∀ n ∈ li ons,(li n.2.2.2.2.1).length < 10000000000000):∃ o,
  (netCk (li oms) (li ons) i = 0 → Ord (EE (li ((li ons).getD i.toNat net0).2.2.1)) (li ((li ons).getD i.toNat net0).2.1).length o) ∧
  mach_RunNet (.agg [sl MC oms,sl NT ons]) (.int .i64 i) (sl SI ox) = some (netF (runNetR (li oms) (li ons) i o (li ox))):=by
 obtain ⟨_,c2⟩:=checkNet_ok hlm hsm hns i
 rw [mach_RunNet.eq]
 simp only [fIsAgg_agg,List.length_cons,List.length_nil,fCell_zero,fCell_succ,fLen_sl,bindO_s,fBin_gtr,fBin_neq,fCond_b,decide_eq_true_eq,c2,runNetR]
 rw [show (0 + 1 + 1 == 2) = true from rfl,gB_t]
 by_cases g1:netCk (li oms) (li ons) i ≠ 0
 ·refine ⟨[],fun h => absurd h g1,?_⟩
  rw [if_pos g1,if_pos g1];rfl
 simp only [g1,if_false]
 have g0:=Decidable.not_not.1 g1
 have hi0:¬ i < 0:=fun g => by unfold netCk at g0;rw [if_pos g] at g0;omega
 have hi1:¬ ((li ons).length:Int) ≤ i:=fun g => by unfold netCk at g0;rw [if_neg hi0,if_pos g] at g0;omega
 have hmg:machinesGo [] (li oms) = 0:=by
  by_cases g:machinesGo [] (li oms) = 0
  ·exact g
  ·unfold netCk at g0;rw [if_neg hi0,if_neg hi1,if_pos g] at g0;exact g0
 have hnc:netC (li oms) ((li ons).getD i.toNat net0).1 (li ((li ons).getD i.toNat net0).2.1) (li ((li ons).getD i.toNat net0).2.2.1) (li ((li ons).getD i.toNat net0).2.2.2.1) (li ((li ons).getD i.toNat net0).2.2.2.2.1) = 0:=by
  unfold netCk at g0;rw [if_neg hi0,if_neg hi1,if_neg (fun g => g hmg)] at g0;exact g0
 have hok:=okN hnc
 have hms:=okMs hmg
 have hi:i.toNat < (li ons).length:=by omega
 have hn:(li ons)[i.toNat]? = some ((li ons).getD i.toNat net0):=by rw [List.getD_eq_getElem?_getD,List.getElem?_eq_getElem hi,Option.getD_some]
 have hix:=idx_sl hn (NT_len _)
 rw [show ((i.toNat:Nat):Int) = i by omega] at hix
 have hmem:=List.mem_of_getElem? hn
 obtain ⟨s1,s2,s3,s4,s5⟩:=hns _ hmem
 have hlo':=hlo _ hmem
 have h32:=hok.n32
 have hil:=ins_small hok hms
 generalize (li ons).getD i.toNat net0 = nt at *
 obtain ⟨xm,bm,m1,m2,m3⟩:=mach_order_ok (ol:=nt.2.2.1) (ops:=nt.2.1) rfl h32.2 (edges hok) s3.1 (.str nt.1) (sl PN nt.2.2.2.1) (sl PN nt.2.2.2.2.1)
 obtain ⟨o',rfl,ho'⟩:=m3 (m2.2 hok.rank)
 refine ⟨o',fun _ => ho',?_⟩
 by_cases g2:4096 < ((li ox).length:Int)
 ·rw [if_pos g2,if_pos g2];rfl
 rw [if_neg g2,if_neg g2,hix]
 have h0:=machNet_L0 (ox:=ox) hok hms (by omega) (sl MC oms) (sl NT ons) (sl NT ons) (.str nt.1) o' _ 0 rfl
 simp only [bindO_s,NT_zero,NT_one,NT_two,NT_three,NT_four,m1,fIsTup_tup,List.length_cons,List.length_nil,fTup_zero,fTup_succ,ports_ok hok (show (li nt.2.2.2.1).length < 1000000000000 by omega)]
 rw [show (0 + 1 + 1 == 2) = true from rfl,gB_t]
 rw [List.drop_zero] at h0
 refine Eq.trans h0 ?_
 unfold netR
 by_cases g3:fitAll ((li nt.2.2.2.1).map (inAt (li oms) (li nt.2.1))) (li ox) = true
 ·rw [if_pos g3,if_pos g3]
  exact machNet_L1 (ox:=ox) hok hms hlo' ho' (by omega) (sl MC oms) (sl NT ons) (sl NT ons) (.str nt.1) _ 0 _ _ [] List.drop_zero (st0_ok hok hms) rfl g3
 ·rw [if_neg g3,if_neg g3];rfl
theorem flat_law {ox:Option (List (Option (List Int)))} (hlo:∀ n ∈ li ons,(li n.2.2.2.2.1).length < 10000000000000):law02_MachFlat (.agg [sl MC oms,sl NT ons]) (.int .i64 i) (sl SI ox) = some (.bool true):=by
 obtain ⟨c1,c2⟩:=checkNet_ok hlm hsm hns i
 obtain ⟨o0,ho0,hrun⟩:=machNet_ok (ox:=ox) hlm hsm hns i hlo
 have er:=ref02_Flat.eq (.agg [sl MC oms,sl NT ons]) (.int .i64 i)
 have em:=mach_Flat.eq (.agg [sl MC oms,sl NT ons]) (.int .i64 i)
 simp only [fIsAgg_agg,List.length_cons,List.length_nil,fCell_zero,fCell_succ,c1,c2,bindO_s,fBin_neq,fCond_b,decide_eq_true_eq] at er em
 rw [show (0 + 1 + 1 == 2) = true from rfl,gB_t] at er em
 by_cases g1:netCk (li oms) (li ons) i ≠ 0
 ·rw [if_pos g1] at er em
  exact law_err rfl g1 er em
 rw [if_neg g1] at er em
 have g0:=Decidable.not_not.1 g1
 have hi0:¬ i < 0:=fun g => by unfold netCk at g0;rw [if_pos g] at g0;omega
 have hi1:¬ ((li ons).length:Int) ≤ i:=fun g => by unfold netCk at g0;rw [if_neg hi0,if_pos g] at g0;omega
 have hmg:machinesGo [] (li oms) = 0:=by
  by_cases g:machinesGo [] (li oms) = 0
  ·exact g
  ·unfold netCk at g0;rw [if_neg hi0,if_neg hi1,if_pos g] at g0;exact g0
 have hnc:netC (li oms) ((li ons).getD i.toNat net0).1 (li ((li ons).getD i.toNat net0).2.1) (li ((li ons).getD i.toNat net0).2.2.1) (li ((li ons).getD i.toNat net0).2.2.2.1) (li ((li ons).getD i.toNat net0).2.2.2.2.1) = 0:=by
  unfold netCk at g0;rw [if_neg hi0,if_neg hi1,if_neg (fun g => g hmg)] at g0;exact g0
 have hok:=okN hnc
 have hms:=okMs hmg
 have hi:i.toNat < (li ons).length:=by omega
 have hn:(li ons)[i.toNat]? = some ((li ons).getD i.toNat net0):=by rw [List.getD_eq_getElem?_getD,List.getElem?_eq_getElem hi,Option.getD_some]
 have hix:=idx_sl hn (NT_len _)
 rw [show ((i.toNat:Nat):Int) = i by omega] at hix
 have hmem:=List.mem_of_getElem? hn
 obtain ⟨s1,s2,s3,s4,s5⟩:=hns _ hmem
 have hlo':=hlo _ hmem
 have h32:=hok.n32
 have hil:=ins_small hok hms
 have hio:=ho0 g0
 simp only [runNetR,g0,ne_eq,not_true_eq_false,if_false] at hrun
 generalize (li ons).getD i.toNat net0 = nt at *
 obtain ⟨xr,br,r1,r2,r3⟩:=ref_order_ok (ol:=nt.2.2.1) (ops:=nt.2.1) rfl h32.2 (edges hok) s3.1 (.str nt.1) (sl PN nt.2.2.2.1) (sl PN nt.2.2.2.2.1)
 obtain ⟨xm,bm,m1,m2,m3⟩:=mach_order_ok (ol:=nt.2.2.1) (ops:=nt.2.1) rfl h32.2 (edges hok) s3.1 (.str nt.1) (sl PN nt.2.2.2.1) (sl PN nt.2.2.2.2.1)
 obtain ⟨o,rfl,ho⟩:=r3 (r2.2 hok.rank)
 obtain ⟨o',rfl,ho'⟩:=m3 (m2.2 hok.rank)
 have hL:=inAt_lens hok hms
 have hpl:(li (some ((li nt.2.2.2.1).map (inAt (li oms) (li nt.2.1))))).length < 1000000000000000:=by simp;omega
 have pr:=ref_product_ok (o:=some ((li nt.2.2.2.1).map (inAt (li oms) (li nt.2.1)))) hpl hL
 have pm:=mach_product_ok (o:=some ((li nt.2.2.2.1).map (inAt (li oms) (li nt.2.1)))) hpl hL
 have pr':ref02_product (.arr (((li nt.2.2.2.1).map (inAt (li oms) (li nt.2.1))).map P)) = some (.int .i64 ((min (prodL ((li nt.2.2.2.1).map (inAt (li oms) (li nt.2.1)))) 2097152:Nat):Int)):=pr
 have pm':mach_product (.arr (((li nt.2.2.2.1).map (inAt (li oms) (li nt.2.1))).map P)) = some (.int .i64 (capP (prodL ((li nt.2.2.2.1).map (inAt (li oms) (li nt.2.1)))):Int)):=pm
 have w:IntKind.i64.wrap (((min (prodL ((li nt.2.2.2.1).map (inAt (li oms) (li nt.2.1)))) 2097152:Nat):Int) * 4096) = ((min (prodL ((li nt.2.2.2.1).map (inAt (li oms) (li nt.2.1)))) 2097152:Nat):Int) * 4096:=wrap64 (by omega) (by omega)
 simp only [hix,bindO_s,NT_zero,NT_one,NT_two,NT_three,NT_four,netPorts_ok hok (show (li nt.2.2.2.1).length < 1000000000000 by omega),pr',fLen_sl,fBin_gtr,fCond_b,decide_eq_true_eq,fBin_mul,w] at er
 simp only [hix,bindO_s,NT_zero,NT_one,NT_two,NT_three,NT_four,m1,fIsTup_tup,List.length_cons,List.length_nil,fTup_zero,fTup_succ,ports_ok hok (show (li nt.2.2.2.1).length < 1000000000000 by omega),fLen_sl,fBin_gtr,fCond_b,decide_eq_true_eq] at em
 rw [show (0 + 1 + 1 == 2) = true from rfl,gB_t] at em
 by_cases g2:(8:Int) < ((li nt.2.2.2.1).length:Int)
 ·rw [if_pos g2] at er em
  exact law_err rfl (by decide) er em
 rw [if_neg g2] at er em
 by_cases g3:(8:Int) < ((li nt.2.2.2.2.1).length:Int)
 ·rw [if_pos g3] at er em
  exact law_err rfl (by decide) er em
 rw [if_neg g3] at er em
 simp only [pm',bindO_s,fBin_gtr,fCond_b,decide_eq_true_eq] at em
 by_cases g4:256 < prodL ((li nt.2.2.2.1).map (inAt (li oms) (li nt.2.1)))
 ·rw [if_pos (by omega)] at er
  rw [if_pos (by unfold capP;split <;> omega)] at em
  exact law_err rfl (by decide) er em
 rw [if_neg (by omega)] at er
 rw [if_neg (by unfold capP;split <;> omega)] at em
 have hF:FlN (li oms) (li nt.2.1) (li nt.2.2.1) (li nt.2.2.2.1) (li nt.2.2.2.2.1) o:=⟨hok,hms,ho,by omega,by omega,by omega⟩
 have hF':FlN (li oms) (li nt.2.1) (li nt.2.2.1) (li nt.2.2.2.1) (li nt.2.2.2.2.1) o':=⟨hok,hms,ho',by omega,by omega,by omega⟩
 rw [show min (prodL ((li nt.2.2.2.1).map (inAt (li oms) (li nt.2.1)))) 2097152 = prodL ((li nt.2.2.2.1).map (inAt (li oms) (li nt.2.1))) by omega] at er
 obtain ⟨T,hT,e1⟩:=rf_L0 hF nt.1 (sl NT ons) (.bool br) r1
 rw [e1] at er
 rw [mach_Flat.L0_eq] at em
 simp only [fLen_arr,List.length_map,bindO_s] at em
 have e2:=mf_L1 hF' (sl MC oms) (sl NT ons) (.str []) (.int .i64 0) (sl NT ons) (.str nt.1) (sl LK nt.2.2.1) (.arr (o'.map numR)) (.str nt.1) (.int .i64 0) [] [] [] [] [] [] [] ((li nt.2.2.2.1).map (inAt (li oms) (li nt.2.1))) 0 [] List.drop_zero rfl
 have e3:=mf_L2 hF' nt.1 (sl NT ons) ([] ++ nmP 105 0 ((li nt.2.2.2.1).map (inAt (li oms) (li nt.2.1)))) rfl ((li nt.2.2.2.2.1).map (outAt (li oms) (li nt.2.1))) 0 [] List.drop_zero rfl rfl
 have e4:=e2.trans e3
 rw [List.length_map] at e4
 have em':=em.trans e4
 have hpo:∀ p ∈ insG (li oms) (li nt.2.1) (li nt.2.2.2.1) ++ outsG (li oms) (li nt.2.1) (li nt.2.2.2.2.1),SmP p:=by
  intro p hp
  rcases List.mem_append.1 hp with hp | hp
  ·refine nmP_sm 105 0 (fun q hq => ?_) p hp
   obtain ⟨r,hr,rfl⟩:=List.mem_map.1 hq
   have q1:=isInB_iff.1 (hok.iok r hr)
   have hm:=hsm _ (mAt_mem hok.pin (p:=r.1.toNat) (by omega))
   have e:insAt (li oms) (li nt.2.1) r.1 = li (mAt (li oms) (li nt.2.1) r.1.toNat).2.2.2.1:=by
    rw [← insAt_mAt,show ((r.1.toNat:Nat):Int) = r.1 by omega]
   have hi':r.2.1.toNat < (insAt (li oms) (li nt.2.1) r.1).length:=by omega
   refine hm.ins.2 _ ?_
   rw [← e]
   unfold inAt
   rw [List.getD_eq_getElem?_getD,List.getElem?_eq_getElem hi',Option.getD_some]
   exact List.getElem_mem hi'
  ·refine nmP_sm 111 0 (fun q hq => ?_) p hp
   obtain ⟨r,hr,rfl⟩:=List.mem_map.1 hq
   have q1:=isOutB_iff.1 (hok.ook r hr)
   have hm:=hsm _ (mAt_mem hok.pin (p:=r.1.toNat) (by omega))
   have e:outsAt (li oms) (li nt.2.1) r.1 = li (mAt (li oms) (li nt.2.1) r.1.toNat).2.2.2.2.1:=by
    rw [← outsAt_mAt,show ((r.1.toNat:Nat):Int) = r.1 by omega]
   have hi':r.2.1.toNat < (outsAt (li oms) (li nt.2.1) r.1).length:=by omega
   refine hm.outs.2 _ ?_
   rw [← e]
   unfold outAt
   rw [List.getD_eq_getElem?_getD,List.getElem?_eq_getElem hi',Option.getD_some]
   exact List.getElem_mem hi'
 rcases flat_both hF hF' (nm:=nt.1) s1 (sl NT ons) (.arr ((sts0 (li oms) (li nt.2.1)).map I)) (.arr ((q0 (li nt.2.2.1)).map LL)) hpo hT with ⟨k1,k2⟩ | ⟨n,Rw,k0,k1,k2,k3⟩
 ·rw [k1] at er
  rw [k2] at em'
  exact law_err rfl (by decide) er em'
 rw [k1] at er
 rw [k2] at em'
 by_cases g5:checkP (nt.1,some (qN n),0,some (insG (li oms) (li nt.2.1) (li nt.2.2.2.1)),some (outsG (li oms) (li nt.2.1) (li nt.2.2.2.2.1)),some Rw,()) = 0
 ·have hmr:=mach_run_ok (oi:=ox) k0
  have g5':checkG nt.1 (qN n) 0 (insG (li oms) (li nt.2.1) (li nt.2.2.2.1)) (outsG (li oms) (li nt.2.1) (li nt.2.2.2.2.1)) Rw = 0:=g5
  simp only [li_some,runR,g5',ne_eq,not_true_eq_false,if_false] at hmr
  by_cases g6:4096 < ((li ox).length:Int)
  ·rw [if_pos g6] at hmr hrun
   exact law_mach k0 g5 er em' hrun hmr sameLists_nil
  rw [if_neg g6] at hmr hrun
  have hfe:fitAll (insG (li oms) (li nt.2.1) (li nt.2.2.2.1)) (li ox) = fitAll ((li nt.2.2.2.1).map (inAt (li oms) (li nt.2.1))) (li ox):=by
   unfold fitAll insG
   simp only [fitP_nm]
  simp only [hfe] at hmr
  unfold netR at hrun
  by_cases g7:fitAll ((li nt.2.2.2.1).map (inAt (li oms) (li nt.2.1))) (li ox) = true
  ·rw [if_pos g7] at hmr hrun
   rw [show (Int.toNat 0) = 0 from rfl,k3 _ g7] at hmr
   rw [netGo_order hok hio ho] at hrun
   refine law_mach k0 g5 er em' hrun hmr (sameLists_ok (by rw [netGo_len];omega) fun y hy => ?_)
   rw [netGo_each _ _ _ _ _ _ _ _ _ y hy]
   omega
  ·rw [if_neg g7] at hmr hrun
   exact law_mach k0 g5 er em' hrun hmr sameLists_nil
 ·unfold resF at er em'
  rw [if_pos g5] at er em'
  exact law_err rfl g5 er em'
end
end Go.Proofs.Ytelcbakleaaneaa
end
section
namespace Go.Proofs.Ytelcbakleaaneaa
open Go Go.Proofs.Ytelcbakleaaneaa.VM
structure WfM (nm:Str) (sts:Option (List Str)) (ins outs:Option (List TPort)) (rows:Option (List TRow)):Prop where
 nm:nm.length ≤ reachBytes
 sts:(li sts).length * 16 ≤ reachBytes ∧ ∀ s ∈ li sts,s.length ≤ reachBytes
 ins:(li ins).length * 40 ≤ reachBytes ∧ ∀ p ∈ li ins,p.1.length ≤ reachBytes ∧ ((li p.2.1).length * 16 ≤ reachBytes ∧ ∀ s ∈ li p.2.1,s.length ≤ reachBytes)
 outs:(li outs).length * 40 ≤ reachBytes ∧ ∀ p ∈ li outs,p.1.length ≤ reachBytes ∧ ((li p.2.1).length * 16 ≤ reachBytes ∧ ∀ s ∈ li p.2.1,s.length ≤ reachBytes)
 rows:(li rows).length * 32 ≤ reachBytes ∧ ∀ r ∈ li rows,(li r.2.1).length * 8 ≤ reachBytes
theorem WfM.sm {nm:Str} {sts:Option (List Str)} {start:Int} {ins outs:Option (List TPort)} {rows:Option (List TRow)} (h:WfM nm sts ins outs rows):SmM (nm,sts,start,ins,outs,rows,()):=by
 obtain ⟨h1,h2,h3,h4,h5⟩:=h
 have hr:reachBytes < 1000000000000000:=by unfold reachBytes;omega
 refine ⟨Nat.lt_of_le_of_lt h1 hr,⟨show (li sts).length < _ by omega,fun s hs => Nat.lt_of_le_of_lt (h2.2 s hs) hr⟩,⟨show (li ins).length < _ by omega,fun p hp => ?_⟩,⟨show (li outs).length < _ by omega,fun p hp => ?_⟩,⟨show (li rows).length < _ by omega,fun r hp => ?_⟩⟩
 ·obtain ⟨k1,k2,k3⟩:=h3.2 p hp
  exact ⟨Nat.lt_of_le_of_lt k1 hr,by omega,fun s hs => Nat.lt_of_le_of_lt (k3 s hs) hr⟩
 ·obtain ⟨k1,k2,k3⟩:=h4.2 p hp
  exact ⟨Nat.lt_of_le_of_lt k1 hr,by omega,fun s hs => Nat.lt_of_le_of_lt (k3 s hs) hr⟩
 ·have:=h5.2 r hp
  omega
end Go.Proofs.Ytelcbakleaaneaa
end
section
namespace Go.Proofs.Ytelcbakleaaneaa
open Go Go.Proofs.Ytelcbakleaaneaa.VM
abbrev WM (m:TMach):Prop:=WfM m.1 m.2.1 m.2.2.2.1 m.2.2.2.2.1 m.2.2.2.2.2.1
def WN (n:TNet):Prop:=n.1.length ≤ reachBytes ∧ ((li n.2.1).length * 24 ≤ reachBytes ∧ ∀ p ∈ li n.2.1,p.1.length ≤ reachBytes) ∧ ((li n.2.2.1).length * 64 ≤ reachBytes ∧ ∀ l ∈ li n.2.2.1,(li l.2.2.2.1).length * 8 ≤ reachBytes) ∧ (li n.2.2.2.1).length * 16 ≤ reachBytes ∧ (li n.2.2.2.2.1).length * 16 ≤ reachBytes
theorem WN.sm {n:TNet} (h:WN n):SmN n:=by
 obtain ⟨h1,h2,h3,h4,h5⟩:=h
 have hr:reachBytes < 1000000000000000:=by unfold reachBytes;omega
 exact ⟨by omega,⟨by omega,fun p hp => by have:=h2.2 p hp;omega⟩,⟨by omega,fun l hl => by have:=h3.2 l hl;unfold SmL;omega⟩,by omega,by omega⟩
end Go.Proofs.Ytelcbakleaaneaa
end
section
namespace Go.Proofs.Ytelcbakleaaneaa
open Go Go.Proofs.Ytelcbakleaaneaa.VM
theorem WN.outs {n:TNet} (h:WN n):(li n.2.2.2.2.1).length < 10000000000000:=by
 have hr:reachBytes < 150000000000000:=by unfold reachBytes;omega
 have:=h.2.2.2.2
 omega
theorem wm_of (m:TMach):wf (.cons .str (.cons (.sl 16 .str) (.cons (.int .i64) (.cons (.sl 40 (.cons .str (.cons (.sl 16 .str) .nil))) (.cons (.sl 40 (.cons .str (.cons (.sl 16 .str) .nil))) (.cons (.sl 32 (.cons (.int .i64) (.cons (.sl 8 (.int .i64)) .nil))) .nil)))))) m → WM m:=by
 obtain ⟨nm,sts,start,ins,outs,rows,⟨⟩⟩:=m
 rintro ⟨h1,h2,h3,h4,h5,h6,_⟩
 exact ⟨h1,h2,⟨h4.1,fun p hp => ⟨(h4.2 p hp).1,(h4.2 p hp).2.1⟩⟩,⟨h5.1,fun p hp => ⟨(h5.2 p hp).1,(h5.2 p hp).2.1⟩⟩,⟨h6.1,fun r hr => (h6.2 r hr).2.1.1⟩⟩
end Go.Proofs.Ytelcbakleaaneaa
end
section
namespace Go.Proofs.Ytelcbakleaaneaa
open Go Go.Proofs.Ytelcbakleaaneaa.VM
theorem machFlat_typed (oms:Option (List TMach)) (ons:Option (List TNet)) (i:Int) (ox:Option (List (Option (List Int)))) (h2:(li oms).length * 120 ≤ reachBytes ∧ ∀ m ∈ li oms,WM m) (h3:∀ n ∈ li ons,WN n) :
  law02_MachFlat (.agg [sl MC oms,sl NT ons]) (.int .i64 i) (sl SI ox) = some (.bool true):=by
 have hr:reachBytes < 1000000000000000:=by unfold reachBytes;omega
 exact flat_law (by omega) (fun m hm => WfM.sm (start:=m.2.2.1) (h2.2 m hm)) (fun n hn => (h3 n hn).sm) i (fun n hn => (h3 n hn).outs)
theorem machFlat_pure (x:Vals tcsMachFlat) (h:wfs tcsMachFlat x):den E 13 (argsF tcsMachFlat x) = some (.bool true):=by
 obtain ⟨⟨oms,ons,⟨⟩⟩,i,ox,⟨⟩⟩:=x
 obtain ⟨⟨h2,h3,_⟩,h4,h5,_⟩:=h
 exact machFlat_typed oms ons i ox ⟨h2.1,fun m hm => wm_of m (h2.2 m hm)⟩ (fun n hn => by
  obtain ⟨k1,k2,k3,k4,k5,_⟩:=h3.2 n hn
  exact ⟨k1,⟨k2.1,fun p hp => (k2.2 p hp).1⟩,⟨k3.1,fun l hl => (k3.2 l hl).2.2.2.1.1⟩,k4.1,k5.1⟩)
end Go.Proofs.Ytelcbakleaaneaa
end
