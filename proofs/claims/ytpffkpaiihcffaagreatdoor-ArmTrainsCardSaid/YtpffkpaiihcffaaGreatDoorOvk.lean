/- Steps of the proof: The examples of the chapter, run by the abstract machine; What arm.Pulses answers, over the small environment: one closed evaluation for each move; Writing to a strings.Builder beside another one: what is written, and that nothing else turns; The map of trains by moves; two builders side by side; The text of a builder: what else stays; arm.TrainOf: what it answers at any moves; arm.TrainOf's and arm.Pulses' answers stand for their calls; the overrides together. -/
import Derived.Test.YtpffkpaiihcffaaGreatDoorEnv
import Derived.KernelRfl
import Derived.Test.YtpffkpaiihcffaaGreatDoorCanQ
import Derived.Test.YtpffkpaiihcffaaGreatDoorCanR
import Derived.Test.YtpffkpaiihcffaaGreatDoorOks
import Derived.Test.YtpffkpaiihcffaaGreatDoorPulE
import Derived.Test.YtpffkpaiihcffaaGreatDoorCel
import Derived.WalkKit
import Derived.Test.YtpffkpaiihcffaaGreatDoorCanP
import Derived.Maps.OwnSet
import Derived.Maps.OwnOps
import Derived.StillTailTactics
import Derived.Deep.DeepCutAuto
import Derived.Deep.CutBlock
set_option linter.unusedVariables false
set_option linter.unusedSectionVars false
section
namespace Go.Proofs.YtpffkpaiihcffaaGreatDoor
open Go Go.Proofs.YtpffkpaiihcffaaGreatDoor.VM
theorem awake_run : callF E 400 15 [] = some (.bool true):=by kernel_rfl
theorem awake_true : law08_awake = some (.bool true):=(den_cv E 15 []).of 400 _ awake_run
end Go.Proofs.YtpffkpaiihcffaaGreatDoor
end
section
namespace Go.Proofs.YtpffkpaiihcffaaGreatDoor.Z
open Go Go.Proofs Go.Proofs.YtpffkpaiihcffaaGreatDoor.VM Go.RowKit
theorem formed_p (k c : Int) : arm_formed (.agg [.int .i64 k,.int .i64 c]) = some (.bool (rgtA k c)):=by
 obtain ⟨w,h⟩:=word_z c
 rw [arm_formed.eq]
 simp only [fIsAgg_agg,List.length_cons,List.length_nil,fCell_zero,fCell_succ,fBin_geq,fBin_leq,bindO_s,fCond_b,arm_formed.L0_eq,fBin_eql,h,rgtA,fIsTup_tup,fTup_zero,fTup_succ]
 by_cases h7 : k = 7
 ·subst h7;simp
 by_cases h8 : k = 8
 ·subst h8;simp
 by_cases h1 : 1 ≤ k <;> by_cases h2 : k ≤ 6 <;> simp [h1,h2,h7,h8]
theorem pul_of {k s : Int} (h : pulB k s) : arm_Pulses (.agg [.int .i64 k,.int .i64 s]) = some (pulR k s):=(den_cv E 24 [.agg [.int .i64 k,.int .i64 s]]).of 400 _ h
theorem rgt_cases {k s : Int} (h : rgtA k s = true) : (s = 0 ∧ (k = 1 ∨ k = 2 ∨ k = 3 ∨ k = 4 ∨ k = 5 ∨ k = 6)) ∨ ((k = 7 ∨ k = 8) ∧ (s = 9 ∨ s = 10 ∨ s = 11 ∨ s = 12 ∨ s = 17 ∨ s = 18 ∨ s = 19 ∨ s = 20 ∨ s = 25)):=by
 unfold rgtA at h
 split at h
 ·rename_i hk
  right
  refine ⟨hk,?_⟩
  simpa [quietC] using h
 ·simp only [Bool.and_eq_true,decide_eq_true_eq] at h
  left
  omega
theorem pulses_z (k s : Int) : arm_Pulses (.agg [.int .i64 k,.int .i64 s]) = some (pulR k s):=by
 cases h : rgtA k s with
 | false =>
  rw [arm_Pulses.eq]
  simp only [fIsAgg_agg,List.length_cons,List.length_nil,fCell_zero,fCell_succ,formed_p,bindO_s,fUn_not,fCond_b,gB_t,Nat.zero_add,Nat.reduceAdd,beq_self_eq_true,h,pulR,trainF]
  rfl
 | true =>
  apply pul_of
  have hcs:=rgt_cases h
  clear h
  rcases hcs with ⟨rfl,h⟩ | ⟨h,h2⟩
  ·rcases h with rfl | rfl | rfl | rfl | rfl | rfl
   ·exact pul_1_0
   ·exact pul_2_0
   ·exact pul_3_0
   ·exact pul_4_0
   ·exact pul_5_0
   ·exact pul_6_0
  ·rcases h with rfl | rfl
   ·rcases h2 with rfl | rfl | rfl | rfl | rfl | rfl | rfl | rfl | rfl
    ·exact pul_7_9
    ·exact pul_7_10
    ·exact pul_7_11
    ·exact pul_7_12
    ·exact pul_7_17
    ·exact pul_7_18
    ·exact pul_7_19
    ·exact pul_7_20
    ·exact pul_7_25
   ·rcases h2 with rfl | rfl | rfl | rfl | rfl | rfl | rfl | rfl | rfl
    ·exact pul_8_9
    ·exact pul_8_10
    ·exact pul_8_11
    ·exact pul_8_12
    ·exact pul_8_17
    ·exact pul_8_18
    ·exact pul_8_19
    ·exact pul_8_20
    ·exact pul_8_25
end Go.Proofs.YtpffkpaiihcffaaGreatDoor.Z
namespace Go.Proofs.YtpffkpaiihcffaaGreatDoor
open Go Go.Proofs Go.Proofs.YtpffkpaiihcffaaGreatDoor.VM Go.RowKit Go.Shelf
def strV (l : List UInt8) : Value:=.string ⟨l.toArray⟩
theorem str_v {w : World} {A : Nat → Prop} {l : List UInt8} {v : Value} (h : FR w A (.str l) v) : v = strV l:=by
 generalize hx : FV.str l = x at h
 cases h with
 | str s => cases hx;rfl
 | _ => cases hx
theorem train_v {w : World} {A : Nat → Prop} {a b : List UInt8} {v : Value} (h : FR w A (.agg [.str a,.str b]) v) : v = .agg #[strV a,strV b]:=by
 generalize hx : FV.agg [.str a,.str b] = x at h
 cases h with
 | agg xs us hl h1 hc =>
  cases hx
  match us,hl with
  | [u1,u2],_ =>
   rw [str_v (hc 0 _ _ rfl rfl),str_v (hc 1 _ _ rfl rfl)]
 | _ => cases hx
section
variable {w : World} {A : Nat → Prop} (hA : ∀ b,A b → b < w.heap.size) (gl : GlobR w A)
include hA gl
theorem args_mv (k s : Int) {ts : List Nat} (ht : ts = [23]) : ArgsR Z.E w A ts [.agg [.int .i64 k,.int .i64 s]] [.agg #[.int .i64 k,.int .i64 s]]:=by
 subst ht
 refine ⟨rfl,rfl,gl,fun i t y u ht hy hu => ?_⟩
 match i,ht,hy,hu with
 | 0,ht,hy,hu =>
  cases hy;cases hu;cases ht
  refine ⟨FR.agg [.int .i64 k,.int .i64 s] [.int .i64 k,.int .i64 s] rfl (by simp [Value.oneCell']) fun j y u hy hu => ?_,fun hh => ?_⟩
  ·match j,hy,hu with
   | 0,hy,hu => cases hy;cases hu;exact .int _ _
   | 1,hy,hu => cases hy;cases hu;exact .int _ _
   | j + 2,hy,hu => simp at hy
  ·have e : (Z.E.ty 23).isAgg = true:=by kernel_rfl
   rw [e] at hh;cases hh
 | i + 1,ht,hy,hu => simp at hy
theorem formed_calls (k s : Int) : Calls Tryz.prog 38 #[.agg #[.int .i64 k,.int .i64 s]] w fun e w' => e = .returned (.bool (rgtA k s)) ∧ Go.RowKit.Below w.heap.size w w' :=
 (z_calls (fn:=Tryz.f38) (cs:=[.agg #[.int .i64 k,.int .i64 s]]) (by kernel_rfl) (by kernel_rfl) (by kernel_rfl) (Z.formed_p k s) hA (args_mv hA gl k s (by kernel_rfl))).mono fun e w' ⟨v,he,hr⟩ => by
  obtain ⟨⟨A',h⟩,hb⟩:=ret_one hr (by kernel_rfl)
  cases h
  exact ⟨he,hb⟩
def pulV (k s : Int) : Value:=match rgtA k s with
 | false => .tuple #[.agg #[strV [],strV []],.int .i64 80]
 | true => .tuple #[.agg #[strV (pulA k s).1,strV (pulA k s).2],.int .i64 0]
theorem pulses_calls (k s : Int) : Calls Tryz.prog 24 #[.agg #[.int .i64 k,.int .i64 s]] w fun e w' => e = .returned (pulV k s) ∧ Go.RowKit.Below w.heap.size w w':=by
 refine (z_calls (fn:=Tryz.f24) (cs:=[.agg #[.int .i64 k,.int .i64 s]]) (by kernel_rfl) (by kernel_rfl) (by kernel_rfl) (Z.pulses_z k s) hA (args_mv hA gl k s (by kernel_rfl))).mono fun e w' ⟨v,he,hr⟩ => ?_
 obtain ⟨A',us,ys,obs,q1,q2,q3,q4,rfl,hy,q5,q6,_,_⟩:=hr
 rw [show Tryz.f24.resultTypes.size = 2 by kernel_rfl] at q5
 have key : ∀ (a b : List UInt8) (n : Int),trainF a b n = packF ys → packVal us = .tuple #[.agg #[strV a,strV b],.int .i64 n]:=by
  intro a b n hy
  match ys,q5 with
  | [y1,y2],_ =>
   simp only [trainF,packF,FV.tup.injEq,List.cons.injEq,and_true] at hy
   obtain ⟨rfl,rfl⟩:=hy
   rw [show Tryz.f24.resultTypes.toList = [39,25] by kernel_rfl] at q6
   match us,q6 with
   | [u1,u2],q6 =>
    obtain ⟨_,_,_,h1,_,_,_,h2,_⟩:=q6
    have g1 : FR w' A' (.agg [.str a,.str b]) u1:=h1.1
    have g2 : FR w' A' (.int .i64 n) u2:=h2.1
    rw [train_v g1]
    generalize hx : FV.int .i64 n = x at g2
    cases g2 with
    | int kk m => cases hx;rfl
    | _ => cases hx
 refine ⟨?_,q4⟩
 rw [he]
 unfold pulR at hy
 unfold pulV
 cases hq : rgtA k s with
 | false => rw [hq] at hy;rw [key _ _ _ hy]
 | true => rw [hq] at hy;rw [key _ _ _ hy]
end
end Go.Proofs.YtpffkpaiihcffaaGreatDoor
end
section
namespace Go.Proofs.YtpffkpaiihcffaaGreatDoor
open Go Go.Proofs Go.RowKit Go.Lib
section
variable {P : Program} (w : World)
theorem append_str_at (base : Nat) (t u ty e : TypeId) (i : TypeInfo) (ht : P.underlying t = some (.slice e)) (hu : P.underlying u = some .string) (hi : P.info? e = some i) (hz : i.zero = some (.int .u8 0)) (hsize : i.size = 1) (hby : i.bytes = 1)
  (v : Value) (n : Nat) (xs : List Value) (hown : w.ownsRow base e 1 v n xs) (s : ByteArray) (h63 : n + s.size ≤ maxLen) (hbytes : n + s.size ≤ 140737488355328) (hbase : base ≤ w.heap.size) :
  ∃ v' w',(Builtin.append_ #[t,u] ty #[v,.string s]).run P w = .ok v' w' ∧ w'.ownsRow base e 1 v' (n + s.size) (xs ++ strCells s) ∧ w.grownBy w' v.ownBlock ∧ (v'.ownBlock = v.ownBlock ∨ v'.ownBlock = some w.heap.size):=by
 obtain ⟨v',w',hr,h2,h3,h4⟩:=run_append_own_string (P:=P) w base t u ty e i ht hu hi hz hsize hby v n xs hown s h63 hbytes hbase
 refine ⟨v',w',hr,h2,h3,?_⟩
 have hsmall : n + s.size ≤ 9223372036854775807:=by simp only [maxLen] at h63;omega
 have hxl : xs.length = n:=by simpa using hown.1
 rcases hown.2 with ⟨rfl,rfl⟩ | ⟨g,cap,cur,rfl,hbg,hg,hnc,hcm,hcs,htake⟩
 ·by_cases hm : s.size = 0
  ·rw [h4.2 ⟨rfl,hm⟩];exact .inl rfl
  ·have hr':=run_append_nil_string (P:=P) w t u ty e i (.int .u8 0) ht hu hi hz s (by omega) (by omega) (by rw [hby];omega)
   have:=hr.symm.trans hr'
   injection this with h5 h6
   rw [h5];exact .inr rfl
 ·by_cases hroom : n + s.size ≤ cap
  ·have hcs' : cur.size = cap:=by simpa using hcs
   have hr':=run_append_room_string (P:=P) w t u ty e i ht hu hi hsize g n cap cur hg s hroom (by omega)
   have:=hr.symm.trans hr'
   injection this with h5 h6
   rw [h5];exact .inl rfl
  ·have holds : ∀ j u,xs[j]? = some u → w.cell? ((⟨g,0,none⟩ : Addr).add j) = some u:=hown.cells (g:=g) rfl
   have hr':=run_append_grow_string (P:=P) w t u ty e i (.int .u8 0) ht hu hi hz ⟨g,0,none⟩ n cap xs (by rw [hsize];simpa using hxl) holds s (by omega) (by omega) (by rw [hby];exact growslice_fits (by omega) (by omega))
   have:=hr.symm.trans hr'
   injection this with h5 h6
   rw [h5];exact .inr rfl
theorem wpList_append_str_at {ops : Array Oper} {rest : List Oper} {o : Oper} {a : Act} {Q : Exit → Act → World → Prop} (hgd : o.guard = none) (sl x : Operand) (t u : TypeId)
  (ho : o.op = .call { callee:=.builtin .append,args:=#[sl,x],argTypes:=#[t,u] })
  (base : Nat) (e : TypeId) (i : TypeInfo) (ht : P.underlying t = some (.slice e)) (hu : P.underlying u = some .string) (hi : P.info? e = some i) (hz : i.zero = some (.int .u8 0)) (hsize : i.size = 1) (hby : i.bytes = 1)
  (v : Value) (n : Nat) (xs : List Value) (hs : a.eval sl = v) (hown : w.ownsRow base e 1 v n xs) (s : ByteArray) (hx : a.eval x = .string s) (h63 : n + s.size ≤ maxLen) (hbytes : n + s.size ≤ 140737488355328) (hbase : base ≤ w.heap.size)
  (h : ∀ v' w',w'.ownsRow base e 1 v' (n + s.size) (xs ++ strCells s) → w.grownBy w' v.ownBlock → (v'.ownBlock = v.ownBlock ∨ v'.ownBlock = some w.heap.size) → wpList P ops Q rest (a.put o.dst v') w') : wpList P ops Q (o :: rest) a w:=by
 refine wpList_plain hgd fun K hK => ?_
 obtain ⟨v',w',hr,h2,h3,h4⟩:=append_str_at (P:=P) w base t u o.type e i ht hu hi hz hsize hby v n xs hown s h63 hbytes hbase
 unfold Oper.wp execOp
 simp only [ho,resolve,invoke,builtin,Sem.run_bind,Sem.run_pure,Result.andThen_ok,List.map_toArray,List.map_cons,List.map_nil,hs,hx,hr]
 exact hK _ _ (h v' w' h2 h3 h4)
end
def Bld (B b : Nat) (v : Value) (bs : List Value) (w : World) : Prop:=B ≤ b ∧ ∃ p,(p = .pointer none ∨ p = .pointer (some ⟨b,0,none⟩)) ∧ w.heap[b]? = some (.cells #[p,v] 82 (0,0)) ∧ w.ownsRow B 5 1 v bs.length bs ∧ v.ownBlock ≠ some b
theorem Bld.is {B b : Nat} {v : Value} {bs : List Value} {w : World} (h : Bld B b v bs w) : IsBuilder 82 5 B b bs w:=by
 obtain ⟨hB,p,hp,hb,hr,hn⟩:=h
 rcases hp with rfl | rfl
 ·exact .inl ⟨hB,v,hb,hr,hn⟩
 ·exact .inr ⟨hB,v,hb,hr,hn⟩
def Beside (b : Nat) (v : Value) (w w' : World) : Prop:=∀ k,k < w.heap.size → k ≠ b → some k ≠ v.ownBlock → w'.heap[k]? = w.heap[k]?
theorem infoByte : (Tryz.prog.info? 5).map (fun i => (i.zero,i.size,i.bytes)) = some (some (.int .u8 0),1,1):=by kernel_rfl
set_option maxHeartbeats 2000000 in
set_option maxRecDepth 100000 in
theorem write_at (B b : Nat) (v : Value) (bs : List Value) (s : ByteArray) (w : World) (h : Bld B b v bs w) (hlen : bs.length + s.size ≤ 140737488355328) (hBw : B ≤ w.heap.size) :
  Calls Tryz.prog 48 #[.pointer (some ⟨b,0,none⟩),.string s] w fun e w' => e = .returned (.tuple #[.int .i64 s.size,.nilIface]) ∧ ∃ v',Bld B b v' (bs ++ strCells s) w' ∧ (v'.ownBlock = v.ownBlock ∨ ∃ g,v'.ownBlock = some g ∧ w.heap.size ≤ g) ∧ Below B w w' ∧ Beside b v w w':=by
 obtain ⟨hB,p,hp,hb,hrow,hne⟩:=h
 obtain ⟨i0,hi,hz0,hz1,hz2⟩:=info_parts infoByte
 have hck : Calls Tryz.prog 70 #[.pointer (some ⟨b,0,none⟩)] w fun e w1 => e = .returned (.tuple #[]) ∧ w1.heap[b]? = some (.cells #[.pointer (some ⟨b,0,none⟩),v] 82 (0,0)) ∧ w1.heap.size = w.heap.size ∧ Below B w w1 ∧ (∀ k,k ≠ b → w1.heap[k]? = w.heap[k]?):=by
  rcases hp with rfl | rfl
  ·refine (Any.Builder_copyCheck_fresh (P:=Tryz.prog) (ρ:=Tryz.lays105_ren) { Tryz.lays105 with } Tryz.Builder_Extra_105.toX72 b w (by simp [World.cell?,hb]) (by simp [World.shape?,hb];rfl) (by simp [World.frozen?,hb])).mono ?_
   rintro e w1 ⟨rfl,rfl⟩
   refine ⟨rfl,?_,by simp,(Below.refl B w).setCell (p:=⟨b,0,none⟩) hB _,fun k hk => Below.heap_setCell w ⟨b,0,none⟩ _ k hk⟩
   obtain ⟨hlt,hk⟩:=Array.getElem?_eq_some_iff.1 hb
   show (w.heap.modify b _)[b]? = _
   rw [Array.getElem?_eq_getElem (by rw [Array.size_modify];exact hlt),Array.getElem_modify_self,hk]
   rfl
  ·refine (Any.Builder_copyCheck_used (P:=Tryz.prog) (ρ:=Tryz.lays105_ren) { Tryz.lays105 with } Tryz.Builder_Extra_105.toX72 b w (by simp [World.cell?,hb])).mono ?_
   rintro e w1 ⟨rfl,rfl⟩
   exact ⟨rfl,hb,rfl,Below.refl B _,fun _ _ => rfl⟩
 clear hp
 go_enter Tryz.func48,Tryz.ntmps48
 go_wp2_with fail
 refine hck.mono ?_
 rintro e w1 ⟨rfl,hbk,hsz,hb1,hk1⟩
 have hown : w1.ownsRow B 5 1 v bs.length bs:=by
  refine ⟨hrow.1,?_⟩
  rcases hrow.2 with h0 | ⟨g,cap,cur,rfl,q1,q2,q3⟩
  ·exact .inl h0
  ·exact .inr ⟨g,cap,cur,rfl,q1,(hk1 g (fun e => hne (by rw [← e];rfl))).trans q2,q3⟩
 have c0 : w1.cell? ⟨b,0,none⟩ = some (.pointer (some ⟨b,0,none⟩)):=by rw [Lib.cell_of_heap hbk];rfl
 have c1 : w1.cell? ⟨b,1,none⟩ = some v:=by rw [Lib.cell_of_heap hbk];rfl
 go_wp2_with (at_builtin;refine wpList_append_str_at _ rfl _ _ 80 9 rfl B 5 i0 Tryz.underlying80 Tryz.underlying9 hi hz0 hz1 hz2 _ _ _ rfl hown s rfl ?c3 ?c4 ?c5 ?_)
 case c3 => unfold maxLen;omega
 case c4 => omega
 case c5 => omega
 intro v' w2 hown' hgrow hloc
 have hlt : b < w1.heap.size:=(Array.getElem?_eq_some_iff.1 hbk).1
 have hb2 : w2.heap[b]? = some (.cells #[.pointer (some ⟨b,0,none⟩),v] 82 (0,0)):=by
  rw [hgrow.block b hlt (fun e => hne e.symm)]
  exact hbk
 have d0 : w2.cell? ⟨b,0,none⟩ = some (.pointer (some ⟨b,0,none⟩)):=by rw [Lib.cell_of_heap hb2];rfl
 have d1 : w2.cell? ⟨b,1,none⟩ = some v:=by rw [Lib.cell_of_heap hb2];rfl
 have f1 : w2.frozen? ⟨b,1,none⟩ = false:=Lib.frozen_of_heap hb2 1
 obtain ⟨ao,n',cap,rfl⟩ : ∃ ao n' cap,v' = .slice ao n' cap:=by
  rcases hown'.2 with ⟨hv,_⟩ | ⟨g,cap,cur,hv,_⟩
  ·exact ⟨_,_,_,hv⟩
  ·exact ⟨_,_,_,hv⟩
 go_wp2
 go_ret2
 have hnb : (Value.slice ao n' cap).ownBlock ≠ some b:=by
  rcases hloc with e | e
  ·rw [e];exact hne
  ·rw [e];intro h;injection h with h;omega
 refine ⟨rfl,.slice ao n' cap,⟨hB,_,.inr rfl,?_,?_,hnb⟩,?_,?_,?_⟩
 ·simpa using heap_setCell (W:=w2) (g:=b) (i:=1) (u:=.slice ao n' cap) hb2
 ·have : (bs ++ strCells s).length = bs.length + s.size:=by rw [List.length_append,strCells_length]
  rw [this]
  exact row_kept (W:=w2) hown' fun k hk => heap_other fun e => hnb (by rw [hk,e])
 ·rcases hloc with e | e
  ·exact .inl e
  ·exact .inr ⟨_,e,by omega⟩
 ·exact (hb1.grown hgrow (by omega) (fun k hk => (hown.lt k hk).1)).setCell (p:=⟨b,1,none⟩) hB _
 ·intro k hk hkb hkv
  exact (heap_other hkb).trans ((hgrow.block k (by omega) (fun e => hkv e)).trans (hk1 k hkb))
end Go.Proofs.YtpffkpaiihcffaaGreatDoor
end
section
namespace Go.Proofs.YtpffkpaiihcffaaGreatDoor
open Go Go.Proofs Go.Proofs.YtpffkpaiihcffaaGreatDoor.VM Go.RowKit Go.WideMaps Go.ChangeMaps Go.Maps Go.WideShapes
theorem row23 : (23 : TypeId) < Tryz.prog.types.size:=of_decide_eq_true (by kernel_rfl)
theorem wide23 : (match Tryz.prog.underlying 23 with | some (.array _ _) | some (.struct _) => true | _ => false) = true:=by rw [Tryz.underlying23]
theorem kt23 : Tryz.prog.keyTypeAt 2 23 = true:=by kernel_rfl
set_option maxRecDepth 10000 in
theorem law23 : KeyLaw Tryz.prog 23:=deep_law_laid (m:=2) laidOutK (by omega) row23 kt23 wide23
theorem keyed23 : Keyed Tryz.prog 23:=Keyed.of_law law23
theorem cellsOf23 : Tryz.prog.cellsOf 23 = 2:=by kernel_rfl
theorem cellsOf3 : Tryz.prog.cellsOf 3 = 1:=by kernel_rfl
theorem keyType23 : Tryz.prog.keyType 23 = true:=by kernel_rfl
abbrev mvV (m : Mv) : Value:=.agg #[.int .i64 m.1,.int .i64 m.2]
def keyM (m : Mv) : Lit:=.string (keyBytes [.int .i64 m.1,.int .i64 m.2])
def RngM (m : Mv) : Prop:=(Lit.int .i64 m.1).wf = true ∧ (Lit.int .i64 m.2).wf = true
theorem rgt_rng {m : Mv} (h : rgtA m.1 m.2 = true) : RngM m:=by
 have:=Z.rgt_cases h
 unfold RngM
 simp only [Lit.wf,IntKind.min,IntKind.max,IntKind.bits,IntKind.signed]
 constructor <;> simp <;> omega
theorem lits_int3 (n : Int) (m : Nat) (hn : (Lit.int .i64 n).wf = true) : Program.keyLits Tryz.prog (m + 1) 3 [.int .i64 n] = some [.int .i64 n]:=by
 simp only [Program.keyLits,Tryz.underlying3,hn,and_self,if_true]
set_option maxRecDepth 20000 in
theorem lits_mv {m : Mv} (h : RngM m) (k : Nat) : Program.keyLits Tryz.prog (k + 1 + 1) 23 [.int .i64 m.1,.int .i64 m.2] = some [.int .i64 m.1,.int .i64 m.2]:=by
 unfold Program.keyLits
 simp only [Tryz.underlying23,cellsOf23,cellsOf3,List.length_cons,List.length_nil]
 rw [if_pos ⟨by trivial,by kernel_rfl⟩]
 simp only [List.mapM_cons,List.mapM_nil,List.drop_zero,List.drop_succ_cons,cellsOf3,List.take_succ_cons,List.take_zero,lits_int3 _ k h.1,lits_int3 _ k h.2]
 rfl
theorem keyOf_mv {m : Mv} (h : RngM m) : keyOf Tryz.prog 23 (mvV m) = some (keyM m):=by
 have hf : (mvV m).formed Tryz.prog 23 = true:=by simp [Value.formed,Tryz.underlying23,cellsOf23]
 simp only [keyOf,Tryz.underlying23,keyType23,hf,Bool.and_self,if_true]
 rw [size_types]
 exact congrArg (Option.map fun ls => Lit.string (keyBytes ls)) (lits_mv h 234)
theorem keyM_inj {c d : Mv} (hc : RngM c) (hd : RngM d) (h : keyM c = keyM d) : c = d:=by
 have:=keyed23.inj (keyOf_mv hc) (h ▸ keyOf_mv hd)
 simp only [mvV,Value.agg.injEq,Array.mk.injEq,List.cons.injEq,Value.int.injEq,true_and,and_true] at this
 exact Prod.ext this.1 this.2
theorem keyM_key (m : Mv) : WideAt.IsKeyLit (keyM m):=by simp [keyM,WideAt.IsKeyLit]
def trD (a b : List UInt8) : DataW Unit:=.agg [.lit (.string a),.lit (.string b)]
def trR (v : Value) : Option (DataW Unit × List MemPlace):=match v with
 | .agg a => (match a.toList with | [.string x,.string y] => some (trD x.data.toList y.data.toList,[]) | _ => none)
 | _ => none
theorem trR_mk (a b : List UInt8) : trR (.agg #[strV a,strV b]) = some (trD a b,[]):=rfl
theorem trR_inv {v : Value} {z : DataW Unit × List MemPlace} (h : trR v = some z) : ∃ a b,v = .agg #[strV a,strV b] ∧ z = (trD a b,[]):=by
 unfold trR at h
 split at h
 ·rename_i a
  split at h
  ·rename_i x y ha
   cases h
   refine ⟨x.data.toList,y.data.toList,?_,rfl⟩
   have : a = #[.string x,.string y]:=by rw [← Array.toList_inj];simpa using ha
   rw [this];rfl
  ·cases h
 ·cases h
theorem trD_inj {a b c d : List UInt8} (h : trD a b = trD c d) : a = c ∧ b = d:=by
 simpa [trD] using h
def entT (m : Mv) : Lit × DataW Unit:=(keyM m,trD (pulA m.1 m.2).1 (pulA m.1 m.2).2)
def TabIs (w : World) (b n : Nat) (L : List Mv) : Prop:=∃ es,w.ownsMap Tryz.prog 23 trR b n (.map es) ∧ es.Perm (L.map entT) ∧ ∀ c ∈ L,RngM c
theorem TabIs.made (w : World) : TabIs (w.alloc (.map #[] 0)) w.heap.size 0 []:=⟨[],World.ownsMap_made w _ _ _,List.Perm.nil,by simp⟩
theorem TabIs.kept {w w' : World} {b n : Nat} {L : List Mv} (h : TabIs w b n L) (hb : w'.heap[b]? = w.heap[b]?) : TabIs w' b n L:=by
 obtain ⟨es,⟨xs,clock,k1,k2⟩,h2⟩:=h
 exact ⟨es,⟨xs,clock,hb.trans k1,k2⟩,h2⟩
theorem TabIs.kept' {w w' : World} {b b' n : Nat} {L : List Mv} (h : TabIs w b n L) (hb : w'.heap[b']? = w.heap[b]?) (e : b' = b) : TabIs w' b' n L:=by subst e;exact h.kept hb
theorem TabIs.lt {w : World} {b n : Nat} {L : List Mv} (h : TabIs w b n L) : b < w.heap.size:=by
 obtain ⟨es,h1,_⟩:=h
 exact h1.lt
theorem tab_apart {es : List (Lit × DataW Unit)} {w : World} {b n : Nat} (h : w.ownsMap Tryz.prog 23 trR b n (.map es)) : es.Pairwise fun p q => p.1 ≠ q.1:=by
 obtain ⟨es',h1,h2,_⟩:=h.entries keyed23
 cases h1
 exact h2
theorem tab_has {L : List Mv} {es : List (Lit × DataW Unit)} (hp : es.Perm (L.map entT)) (hr : ∀ c ∈ L,RngM c) {m : Mv} (hm : RngM m) : has (.map es) (keyM m) = decide (m ∈ L):=by
 cases hh : has (DataW.map es) (keyM m) with
 | true =>
  obtain ⟨p,hpm,hk⟩:=List.any_eq_true.1 (show es.any (fun p => p.1.sameKey (keyM m)) = true from hh)
  obtain ⟨d,hd,rfl⟩:=List.mem_map.1 (hp.mem_iff.1 hpm)
  have:=keyM_inj (hr d hd) hm (WideAt.sameKey_eq hk)
  subst this
  exact (decide_eq_true hd).symm
 | false =>
  refine (decide_eq_false fun hd => ?_).symm
  have : has (DataW.map es) (keyM m) = true:=List.any_eq_true.2 ⟨entT m,hp.mem_iff.2 (List.mem_map.2 ⟨m,hd,rfl⟩),WideAt.sameKey_self (keyM_key m)⟩
  rw [hh] at this;cases this
def gotA (L : List Mv) (m : Mv) : List UInt8 × List UInt8:=if m ∈ L then pulA m.1 m.2 else ([],[])
theorem tab_run {w : World} {b n : Nat} {L : List Mv} (hs : TabIs w b n L) {x y : Int} (hm : RngM (x,y)) : (Instr.lookup 78 (.map (some b)) (.agg #[.int .i64 x,.int .i64 y]) true).run Tryz.prog w = .ok (.tuple #[.agg #[strV (gotA L (x,y)).1,strV (gotA L (x,y)).2],.bool (decide ((x,y) ∈ L))]) w:=by
 obtain ⟨es,ho,hp,hr⟩:=hs
 obtain ⟨v,ps,hrun,hv⟩:=ho.look_ok keyed23 Tryz.underlying78 (Tryz.zeroValue39 w) (trR_mk [] []) (keyOf_mv hm)
 rw [show (Value.agg #[.int .i64 x,.int .i64 y]) = mvV (x,y) from rfl,hrun,tab_has hp hr hm]
 obtain ⟨a,b,rfl,hz⟩:=trR_inv hv
 have hz1:=congrArg Prod.fst hz
 simp only at hz1
 by_cases hd : (x,y) ∈ L
 ·rw [WideAt.atKey_mem _ (keyM_key _) (tab_apart ho) (hp.mem_iff.2 (List.mem_map.2 ⟨_,hd,rfl⟩))] at hz1
  obtain ⟨rfl,rfl⟩:=trD_inj hz1
  simp only [gotA,if_pos hd]
 ·rw [atKey_of_not_has (by rw [tab_has hp hr hm];exact decide_eq_false hd) _] at hz1
  obtain ⟨rfl,rfl⟩:=trD_inj hz1
  simp only [gotA,if_neg hd]
theorem tab_put {L : List Mv} {es : List (Lit × DataW Unit)} (hp : es.Perm (L.map entT)) (hr : ∀ c ∈ L,RngM c) {m : Mv} (hm : RngM m) (hn : m ∉ L) : (putKey (keyM m) (trD (pulA m.1 m.2).1 (pulA m.1 m.2).2) es).Perm ((m :: L).map entT):=by
 have hf : es.filter (notKey (keyM m)) = es:=by
  refine List.filter_eq_self.2 fun p hpm => ?_
  obtain ⟨d,hd,rfl⟩:=List.mem_map.1 (hp.mem_iff.1 hpm)
  unfold notKey entT
  cases hk : (keyM d).sameKey (keyM m) with
  | false => rfl
  | true => exact absurd (keyM_inj (hr d hd) hm (WideAt.sameKey_eq hk) ▸ hd) hn
 unfold putKey
 rw [hf]
 exact (insert_perm _ _).trans (hp.cons _)
structure Two (B : Nat) (va vb : Value) (x y : List UInt8) (w : World) : Prop where
 a : Bld B B va (Lib.byteCells x) w
 b : Bld B (B + 1) vb (Lib.byteCells y) w
 ab : va.ownBlock ≠ some (B + 1)
 ba : vb.ownBlock ≠ some B
 sep : ∀ k,va.ownBlock = some k → vb.ownBlock ≠ some k
theorem Bld.lt {B b : Nat} {v : Value} {bs : List Value} {w : World} (h : Bld B b v bs w) {k : Nat} (hk : v.ownBlock = some k) : B ≤ k ∧ k < w.heap.size:=by
 obtain ⟨_,p,_,_,hr,_⟩:=h
 rcases hr.2 with ⟨rfl,_⟩ | ⟨g,cap,cur,rfl,h1,h2,h3⟩
 ·simp [Value.ownBlock] at hk
 ·simp only [Value.ownBlock,Option.some.injEq] at hk
  subst hk
  exact ⟨h1,(Array.getElem?_eq_some_iff.1 h2).1⟩
theorem Bld.lt' {B b : Nat} {v : Value} {bs : List Value} {w : World} (h : Bld B b v bs w) : b < w.heap.size:=by
 obtain ⟨_,p,_,h2,_⟩:=h
 exact (Array.getElem?_eq_some_iff.1 h2).1
theorem Bld.kept {B b : Nat} {v : Value} {bs : List Value} {w w' : World} (h : Bld B b v bs w) (hb : w'.heap[b]? = w.heap[b]?) (hv : ∀ k,v.ownBlock = some k → w'.heap[k]? = w.heap[k]?) : Bld B b v bs w':=by
 obtain ⟨h1,p,h2,h3,h4,h5⟩:=h
 refine ⟨h1,p,h2,hb.trans h3,⟨h4.1,?_⟩,h5⟩
 rcases h4.2 with h0 | ⟨g,cap,cur,rfl,k1,k2,k3⟩
 ·exact .inl h0
 ·exact .inr ⟨g,cap,cur,rfl,k1,(hv g rfl).trans k2,k3⟩
theorem Two.kept {B : Nat} {va vb : Value} {x y : List UInt8} {w w' : World} (h : Two B va vb x y w) (hk : ∀ k,k < w.heap.size → k = B ∨ k = B + 1 ∨ va.ownBlock = some k ∨ vb.ownBlock = some k → w'.heap[k]? = w.heap[k]?) : Two B va vb x y w' :=
 ⟨h.a.kept (hk _ h.a.lt' (.inl rfl)) fun k e => hk k (h.a.lt e).2 (.inr (.inr (.inl e))),h.b.kept (hk _ h.b.lt' (.inr (.inl rfl))) fun k e => hk k (h.b.lt e).2 (.inr (.inr (.inr e))),h.ab,h.ba,h.sep⟩
theorem Two.grown {B : Nat} {va vb : Value} {x y : List UInt8} {w w' : World} (h : Two B va vb x y w) (hb : Below w.heap.size w w') : Two B va vb x y w':=h.kept fun k hk _ => hb.block k hk
theorem Two.outA {B : Nat} {va vb v' : Value} {x y s : List UInt8} {w w' : World} (h : Two B va vb x y w) (hn : Bld B B v' (Lib.byteCells x ++ Lib.byteCells s) w') (hl : v'.ownBlock = va.ownBlock ∨ ∃ g,v'.ownBlock = some g ∧ w.heap.size ≤ g) (hb : Beside B va w w') : Two B v' vb (x ++ s) y w':=by
 refine ⟨by rw [Lib.byteCells_append];exact hn,h.b.kept (hb _ h.b.lt' (by omega) (fun e => h.ab e.symm)) fun k e => hb k (h.b.lt e).2 (fun e2 => h.ba (e2 ▸ e)) fun e2 => h.sep k e2.symm e,?_,h.ba,?_⟩
 ·rcases hl with e | ⟨g,e,hg⟩
  ·rw [e];exact h.ab
  ·rw [e];intro h2;injection h2 with h2;have:=h.b.lt';omega
 ·rcases hl with e | ⟨g,e,hg⟩
  ·rw [e];exact h.sep
  ·intro k hk hv
   rw [e] at hk
   injection hk with hk
   have:=(h.b.lt hv).2
   omega
theorem Two.outB {B : Nat} {va vb v' : Value} {x y s : List UInt8} {w w' : World} (h : Two B va vb x y w) (hn : Bld B (B + 1) v' (Lib.byteCells y ++ Lib.byteCells s) w') (hl : v'.ownBlock = vb.ownBlock ∨ ∃ g,v'.ownBlock = some g ∧ w.heap.size ≤ g) (hb : Beside (B + 1) vb w w') : Two B va v' x (y ++ s) w':=by
 refine ⟨h.a.kept (hb _ h.a.lt' (by omega) (fun e => h.ba e.symm)) fun k e => hb k (h.a.lt e).2 (fun e2 => h.ab (e2 ▸ e)) fun e2 => h.sep k e e2.symm,by rw [Lib.byteCells_append];exact hn,h.ab,?_,?_⟩
 ·rcases hl with e | ⟨g,e,hg⟩
  ·rw [e];exact h.ba
  ·rw [e];intro h2;injection h2 with h2;have:=h.a.lt';omega
 ·rcases hl with e | ⟨g,e,hg⟩
  ·rw [e];exact h.sep
  ·intro k hk hv
   rw [e] at hv
   injection hv with hv
   have:=(h.a.lt hk).2
   omega
theorem writeA {B : Nat} {va vb : Value} {x y : List UInt8} {w : World} (h : Two B va vb x y w) (s : List UInt8) (hlen : x.length + s.length ≤ 140737488355328) (hBw : B ≤ w.heap.size) :
  Calls Tryz.prog 48 #[.pointer (some ⟨B,0,none⟩),strV s] w fun e w' => (∃ z,e = .returned z) ∧ ∃ v',Two B v' vb (x ++ s) y w' ∧ Below B w w' ∧ ∀ k,k < w.heap.size → k ≠ B → va.ownBlock ≠ some k → w'.heap[k]? = w.heap[k]?:=by
 refine (write_at B B va _ ⟨s.toArray⟩ w h.a (by rw [Lib.byteCells_length];exact hlen) hBw).mono ?_
 rintro e w' ⟨he,v',hn,hl,hb,hk⟩
 exact ⟨⟨_,he⟩,v',h.outA hn hl hk,hb,fun k h1 h2 h3 => hk k h1 h2 fun e => h3 e.symm⟩
theorem writeB {B : Nat} {va vb : Value} {x y : List UInt8} {w : World} (h : Two B va vb x y w) (s : List UInt8) (hlen : y.length + s.length ≤ 140737488355328) (hBw : B ≤ w.heap.size) :
  Calls Tryz.prog 48 #[.pointer (some ⟨B + 1,0,none⟩),strV s] w fun e w' => (∃ z,e = .returned z) ∧ ∃ v',Two B va v' x (y ++ s) w' ∧ Below B w w':=by
 refine (write_at B (B + 1) vb _ ⟨s.toArray⟩ w h.b (by rw [Lib.byteCells_length];exact hlen) hBw).mono ?_
 rintro e w' ⟨he,v',hn,hl,hb,hk⟩
 exact ⟨⟨_,he⟩,v',h.outB hn hl hk,hb⟩
theorem lenA {B : Nat} {va vb : Value} {x y : List UInt8} {w : World} (h : Two B va vb x y w) : Calls Tryz.prog 47 #[.pointer (some ⟨B,0,none⟩)] w fun e w' => e = .returned (.int .i64 x.length) ∧ w' = w:=by
 have:=Tryz.Builder_Len B B _ w h.a.is
 rwa [Lib.byteCells_length] at this
end Go.Proofs.YtpffkpaiihcffaaGreatDoor
end
section
namespace Go.Proofs.YtpffkpaiihcffaaGreatDoor
open Go Go.Proofs Go.RowKit Go.Lib
theorem pointee117 : Tryz.prog.underlying 117 = some (.pointer 5):=Tryz.underlying117
theorem frz_other {w : World} {p : Addr} {n k : Nat} (h : k ≠ p.block) : (w.freeze p n).heap[k]? = w.heap[k]?:=by
 unfold World.freeze
 split
 ·rfl
 ·show (w.heap.modify p.block _)[k]? = _
  rw [Array.getElem?_modify,if_neg (fun e => h e.symm)]
set_option maxHeartbeats 2000000 in
set_option maxRecDepth 100000 in
theorem text_at {B b g cap : Nat} {p : Value} {l : List UInt8} {w : World} (h0 : l ≠ []) (hbk : w.heap[b]? = some (.cells #[p,.slice (some ⟨g,0,none⟩) l.length cap] 82 (0,0))) (hown : w.ownsRow B 5 1 (.slice (some ⟨g,0,none⟩) l.length cap) l.length (Lib.byteCells l)) :
  Calls Tryz.prog 49 #[.pointer (some ⟨b,0,none⟩)] w fun e w' => e = .returned (strV l) ∧ w' = w.drew.freeze ⟨g,0,none⟩ l.length:=by
 have hl : l.length ≠ 0:=by simpa using h0
 obtain ⟨cur,hbg,hg,hnc,hcm,hcs,htake⟩ : ∃ cur,B ≤ g ∧ w.heap[g]? = some (.cells cur 5 (0,0)) ∧ l.length ≤ cap ∧ cap ≤ maxLen ∧ cur.size = cap * 1 ∧ cur.toList.take (l.length * 1) = Lib.byteCells l:=by
  rcases hown.2 with ⟨_,hz⟩ | ⟨g',cap',cur,hv,r⟩
  ·exact absurd hz hl
  ·cases hv;exact ⟨cur,r⟩
 go_enter Tryz.func49,Tryz.ntmps49
 go_wp2_with fail
 refine wp_region_still_tail 10 (by kernel_rfl) (by kernel_rfl) ?_
 simp only [List.take_succ_cons,List.take_zero,List.drop_succ_cons,List.drop_zero]
 have c1 : w.drew.cell? ⟨b,1,none⟩ = some (.slice (some ⟨g,0,none⟩) l.length cap):=by
  have : w.drew.heap[b]? = some (.cells #[p,.slice (some ⟨g,0,none⟩) l.length cap] 82 (0,0)):=hbk
  rw [Lib.cell_of_heap this];rfl
 have hSD : (Builtin.unsafeSliceData_ #[80] 117 #[.slice (some ⟨g,0,none⟩) l.length cap]).run Tryz.prog w.drew = .ok (.pointer (some ⟨g,0,none⟩)) w.drew :=
  Lib.run_unsafeSliceData_row _ _ _ _ _ _ (by omega)
 have hUS : (Builtin.unsafeString_ #[117,3] 9 #[.pointer (some ⟨g,0,none⟩),.int .i64 l.length]).run Tryz.prog w.drew = .ok (.string ⟨l.toArray⟩) (w.drew.freeze ⟨g,0,none⟩ l.length):=by
  refine Lib.run_unsafeString_row w.drew 117 3 9 5 pointee117 (by kernel_rfl) g cur.size (by have hg' : w.drew.heap[g]? = some (.cells cur 5 (0,0)):=hg;simp [World.shape?,hg']) l h0 (by omega) (by unfold maxLen at hcm;omega) ?_
  intro j x hx
  have:=hown.cells (g:=g) rfl j (.int .u8 x.toNat) (by simp [Lib.byteCells,hx])
  exact this
 change wpStill _ _ w.drew (fun a' => wpList _ _ _ _ _ w.drew) _ _
 generalize hW : w.drew = W at c1 hSD hUS ⊢
 have HW:=Lib.hid hW
 clear hW
 repeat still_step
 refine wpStill_nil ?_
 go_wp2
 go_ret
 exact ⟨rfl,by rw [HW.out]⟩
theorem text_nil {b : Nat} {p : Value} {w : World} (hbk : w.heap[b]? = some (.cells #[p,.slice none 0 0] 82 (0,0))) :
  Calls Tryz.prog 49 #[.pointer (some ⟨b,0,none⟩)] w fun e w' => e = .returned (strV []) ∧ Below w.heap.size w w':=Any.Builder_String_nil Tryz.lays169 Tryz.Builder_Extra_169 w.heap.size b p w hbk
theorem two_text {B : Nat} {va vb : Value} {x y : List UInt8} {w : World} (h : Two B va vb x y w) (hx : x = [] → va = .slice none 0 0) (hBw : B ≤ w.heap.size) :
  Calls Tryz.prog 49 #[.pointer (some ⟨B,0,none⟩)] w fun e w' => e = .returned (.string ⟨x.toArray⟩) ∧ Below B w w' ∧ Bld B (B + 1) vb (Lib.byteCells y) w':=by
 obtain ⟨hB,p,hp,hb,hr,hne⟩:=h.a
 by_cases h0 : x = []
 ·subst h0
  have hv:=hx rfl
  subst hv
  refine (text_nil hb).mono ?_
  rintro e w' ⟨rfl,hbl⟩
  exact ⟨rfl,hbl.mono hBw,(h.grown hbl).b⟩
 ·rw [Lib.byteCells_length] at hr
  obtain ⟨g,cap,cur,rfl,hbg,hg,_⟩ : ∃ g cap cur,va = .slice (some ⟨g,0,none⟩) x.length cap ∧ B ≤ g ∧ w.heap[g]? = some (.cells cur 5 (0,0)) ∧ True:=by
   rcases hr.2 with ⟨_,hz⟩ | ⟨g,cap,cur,hv,r⟩
   ·exact absurd (by simpa using hz) h0
   ·exact ⟨g,cap,cur,hv,r.1,r.2.1,trivial⟩
  refine (text_at h0 hb hr).mono ?_
  rintro e w' ⟨rfl,rfl⟩
  refine ⟨rfl,Lib.below_freeze (Below.drew (Below.refl B w)) (p:=⟨g,0,none⟩) hbg _,h.b.kept ?_ fun k hk => ?_⟩
  ·exact frz_other (w:=w.drew) (fun e => h.ab (by rw [e];rfl))
  ·exact frz_other (w:=w.drew) (fun e => h.sep g rfl (by rw [hk];exact congrArg some e))
theorem one_text {B b : Nat} {v : Value} {y : List UInt8} {w : World} (h : Bld B b v (Lib.byteCells y) w) (hy : y = [] → v = .slice none 0 0) (hBw : B ≤ w.heap.size) :
  Calls Tryz.prog 49 #[.pointer (some ⟨b,0,none⟩)] w fun e w' => e = .returned (.string ⟨y.toArray⟩) ∧ Below B w w':=Tryz.Builder_String_any B b y w h.is hBw
end Go.Proofs.YtpffkpaiihcffaaGreatDoor
end
section
namespace Go.Proofs.YtpffkpaiihcffaaGreatDoor
open Go Go.Proofs Go.Proofs.YtpffkpaiihcffaaGreatDoor.VM Go.RowKit Go.Shelf Go.Maps Go.Lib Go.ChangeMaps
def trainV (a b : List UInt8) (e : Int) : Value:=.tuple #[.agg #[strV a,strV b],.int .i64 e]
def trainR (ms : List Mv) : List UInt8 × List UInt8 × Int:=match ms.all fun m => rgtA m.1 m.2 with
 | false => ([],[],80)
 | true => match foldT ms [] [] with
  | none => ([],[],83)
  | some p => (p.1,p.2,0)
theorem trainR_form {ms : List Mv} (h : (ms.all fun m => rgtA m.1 m.2) = false) : trainR ms = ([],[],80):=by unfold trainR;rw [h]
theorem trainR_long {ms : List Mv} (h : (ms.all fun m => rgtA m.1 m.2) = true) (k : foldT ms [] [] = none) : trainR ms = ([],[],83):=by unfold trainR;rw [h,k]
theorem trainR_good {ms : List Mv} {a b : List UInt8} (h : (ms.all fun m => rgtA m.1 m.2) = true) (k : foldT ms [] [] = some (a,b)) : trainR ms = (a,b,0):=by unfold trainR;rw [h,k]
theorem fold_go {m : Mv} {l : List Mv} {A B : List UInt8} (h : A.length + (pulA m.1 m.2).1.length ≤ 262144) : foldT (m :: l) A B = foldT l (A ++ (pulA m.1 m.2).1) (B ++ (pulA m.1 m.2).2):=by
 simp only [foldT,decide_eq_true h]
theorem fold_stop {m : Mv} {l : List Mv} {A B : List UInt8} (h : ¬ A.length + (pulA m.1 m.2).1.length ≤ 262144) : foldT (m :: l) A B = none:=by
 simp only [foldT,decide_eq_false h]
theorem pul_ne {k s : Int} (h : rgtA k s = true) : (pulA k s).1 ≠ [] ∧ (pulA k s).2 ≠ []:=by
 have hl:=(pul_len k s).2
 have h1 : (pulA k s).1 ≠ []:=by
  have hc:=Z.rgt_cases h
  clear h hl
  rcases hc with ⟨rfl,h⟩ | ⟨h,h2⟩
  ·rcases h with rfl | rfl | rfl | rfl | rfl | rfl <;> decide
  ·rcases h with rfl | rfl <;> (rcases h2 with rfl | rfl | rfl | rfl | rfl | rfl | rfl | rfl | rfl <;> decide)
 refine ⟨h1,fun e => h1 ?_⟩
 rw [e] at hl
 exact List.length_eq_zero_iff.1 hl.symm
theorem box2_set {W : World} {g : Nat} {x y u v : Value} {t : Nat} (h : W.heap[g]? = some (.cells #[x,y] t (0,0))) : ((W.setCell ⟨g,0,none⟩ u).setCell ⟨g,1,none⟩ v).heap[g]? = some (.cells #[u,v] t (0,0)):=by
 have:=heap_setCell (u:=v) (i:=1) (heap_setCell (u:=u) (i:=0) h)
 simpa using this
theorem cells2 {W : World} {g : Nat} {x y : Value} {t : Nat} (h : W.heap[g]? = some (.cells #[x,y] t (0,0))) : W.cell? ⟨g,0,none⟩ = some x ∧ W.cell? ⟨g,1,none⟩ = some y ∧ W.frozen? ⟨g,0,none⟩ = false ∧ W.frozen? ⟨g,1,none⟩ = false :=
 ⟨by rw [Lib.cell_of_heap h];rfl,by rw [Lib.cell_of_heap h];rfl,Lib.frozen_of_heap h 0,Lib.frozen_of_heap h 1⟩
def TrainPost (ms : List Mv) (w : World) (e : Ending) (w' : World) : Prop:=e = .returned (trainV (trainR ms).1 (trainR ms).2.1 (trainR ms).2.2) ∧ Go.RowKit.Below w.heap.size w w'
set_option maxHeartbeats 4000000 in
set_option maxRecDepth 100000 in
theorem train_walk {A : Nat → Prop} (w : World) (hA : ∀ b,A b → b < w.heap.size) (gl : GlobR w A) {lv : Value} {ms : List Mv} (hl : MovesR w A lv ms) (hm : ms.length ≤ 100000) :
  Calls Tryz.prog 23 #[lv] w (TrainPost ms w):=by
 have hmk:=@run_makeMap Tryz.prog
 have ext : ∀ {W : World},Go.RowKit.Below w.heap.size w W → (∀ b,A b → b < W.heap.size) ∧ GlobR W A:=fun {W} h => ⟨fun b hb => Nat.lt_of_lt_of_le (hA b hb) h.size,gl.mono ⟨fun _ h => h,fun b hb => h.block b (hA b hb)⟩⟩
 obtain ⟨pl,capl,rfl,hmoves⟩:=hl
 have HMOVES:=Lib.hid hmoves
 clear hmoves
 go_enter Tryz.func23,Tryz.ntmps23
 go_wp2_with fail
 obtain ⟨W0,hW0⟩ : ∃ W0,W0 = w.alloc (.cells #[.string ⟨#[]⟩,.string ⟨#[]⟩] 39):=⟨_,rfl⟩
 have hb0 : Go.RowKit.Below w.heap.size w W0:=by rw [hW0];exact (Go.RowKit.Below.refl _ w).alloc (Nat.le_refl _) _
 have hr0 : W0.heap[w.heap.size]? = some (.cells #[.string ⟨#[]⟩,.string ⟨#[]⟩] 39 (0,0)):=by rw [hW0];exact heap_new _ _
 have hs0 : w.heap.size < W0.heap.size:=by rw [hW0];simp
 rw [← hW0]
 have HW0:=Lib.hid hW0
 clear hW0
 go_loopw [15,3] (fun iv s3 wr => ∃ k : Nat,iv = .int .i64 k ∧ s3 = .int .i64 0 ∧ k ≤ ms.length ∧ (ms.all fun m => rgtA m.1 m.2) = ((ms.drop k).all fun m => rgtA m.1 m.2) ∧ wr.heap[w.heap.size]? = some (.cells #[.string ⟨#[]⟩,.string ⟨#[]⟩] 39 (0,0)) ∧ w.heap.size < wr.heap.size ∧ Go.RowKit.Below w.heap.size w wr) (fun iv _ _ => ms.length - (intOf iv).toNat)
 case atStart => exact ⟨0,rfl,rfl,Nat.zero_le _,rfl,hr0,hs0,hb0⟩
 case round =>
  clear hr0 hs0 hb0
  obtain ⟨k,rfl,rfl,hk,hq,hrr,hsr,hbr⟩:=hrel
  by_cases hlt : k < ms.length
  ·obtain ⟨c1,c2,hc⟩ : ∃ c1 c2 : Int,ms[k]? = some (c1,c2):=⟨_,_,List.getElem?_eq_getElem hlt⟩
   obtain ⟨b,o,rfl,hAb,f0,f1⟩:=HMOVES.out k _ hc
   have hbl:=hA b hAb
   have e0 : wr.cell? ⟨b,o + k * 2,none⟩ = some (.int .i64 c1):=(hbr.cell (p:=⟨b,o + k * 2,none⟩) hbl).trans f0
   have e1 : wr.cell? ⟨b,o + k * 2 + 1,none⟩ = some (.int .i64 c2):=(hbr.cell (p:=⟨b,o + k * 2 + 1,none⟩) hbl).trans f1
   have hal:=(Go.RowKit.Below.refl wr.heap.size wr).alloc (Nat.le_refl _) (.cells #[.int .i64 c1,.int .i64 c2] 23)
   have hbox : Go.RowKit.Below w.heap.size w (wr.alloc (.cells #[.int .i64 c1,.int .i64 c2] 23)):=hbr.trans (hal.mono hbr.size)
   have hrx:=(hal.block _ hsr).trans hrr
   have hsx : w.heap.size < (wr.alloc (.cells #[.int .i64 c1,.int .i64 c2] 23)).heap.size:=Nat.lt_of_lt_of_le hsr hal.size
   have hfm:=formed_calls (ext hbox).1 (ext hbox).2 c1 c2
   have hdrop : ms.drop k = (c1,c2) :: ms.drop (k + 1):=by
    rw [List.drop_eq_getElem_cons hlt]
    congr 1
    rw [List.getElem?_eq_getElem hlt] at hc
    exact Option.some.inj hc
   have HQ:=Lib.hid hq
   have HD:=Lib.hid hdrop
   have HRX:=Lib.hid hrx
   clear f0 f1 hc hdrop hq hal hrr hsr hbr hrx
   cases hg : rgtA c1 c2 with
   | false =>
    rw [hg] at hfm
    have HR:=Lib.hid (trainR_form (ms:=ms) (by rw [HQ.out,HD.out];simp [hg]))
    clear hg
    go_wp2_with fail
    refine hfm.mono ?_
    rintro e W3 ⟨rfl,hb3⟩
    have hr3:=(hb3.block _ hsx).trans HRX.out
    obtain ⟨c0,c1',d0,d1⟩:=cells2 hr3
    go_wp2_with fail
    have hf:=box2_set (u:=.string ⟨#[]⟩) (v:=.string ⟨#[]⟩) hr3
    have hbf:=((hbox.trans (hb3.mono hbox.size)).setCell (p:=⟨w.heap.size,0,none⟩) (Nat.le_refl _) (.string ⟨#[]⟩)).setCell (p:=⟨w.heap.size,1,none⟩) (Nat.le_refl _) (.string ⟨#[]⟩)
    generalize ((W3.setCell ⟨w.heap.size,0,none⟩ (.string ⟨#[]⟩)).setCell ⟨w.heap.size,1,none⟩ (.string ⟨#[]⟩)) = Wf at hf hbf ⊢
    obtain ⟨c0',c1'',_,_⟩:=cells2 hf
    refine bodyPost_ret (v:=.tuple #[.agg #[.string ⟨#[]⟩,.string ⟨#[]⟩],.int .i64 80]) (by rw [results_cell_tmp Tryz.results23];go_simp) rfl ?_
    exact ⟨by rw [HR.out];rfl,hbf⟩
   | true =>
    rw [hg] at hfm
    have HG:=Lib.hid hg
    clear hg
    go_wp2_with fail
    refine hfm.mono ?_
    rintro e W3 ⟨rfl,hb3⟩
    go_wp2_with fail
    refine ⟨⟨k + 1,by go_num,rfl,by omega,?_,(hb3.block _ hsx).trans HRX.out,Nat.lt_of_lt_of_le hsx hb3.size,hbox.trans (hb3.mono hbox.size)⟩,by simp [intOf];omega⟩
    rw [HQ.out,HD.out]
    simp [HG.out]
  ·have hkl : k = ms.length:=by omega
   subst hkl
   rw [List.drop_length] at hq
   have HQ:=Lib.hid (show (ms.all fun m => rgtA m.1 m.2) = true by rw [hq];rfl)
   clear hq
   go_wp2_with fail
   obtain ⟨N,hN⟩ : ∃ N,N = wr.heap.size:=⟨_,rfl⟩
   obtain ⟨Wm,hWm⟩ : ∃ Wm,Wm = ((wr.alloc (.map #[] 0)).alloc (.cells #[.pointer none,.slice none 0 0] 82)).alloc (.cells #[.pointer none,.slice none 0 0] 82):=⟨_,rfl⟩
   have hsm : Wm.heap.size = N + 3:=by rw [hWm,hN];simp
   have hold : ∀ k,k < wr.heap.size → Wm.heap[k]? = wr.heap[k]?:=fun k hk => by
    rw [hWm,Lib.alloc_old _ _ _ (by simp;omega),Lib.alloc_old _ _ _ (by simp;omega),Lib.alloc_old _ _ _ hk]
   have hn0 : Wm.heap[N]? = some (.map #[] 0):=by
    rw [hWm,hN,Lib.alloc_old _ _ _ (by simp;omega),Lib.alloc_old _ _ _ (by simp)];exact heap_new _ _
   have hn1 : Wm.heap[N + 1]? = some (.cells #[.pointer none,.slice none 0 0] 82 (0,0)):=by
    rw [hWm,hN,Lib.alloc_old _ _ _ (by simp)]
    have:=heap_new (wr.alloc (.map #[] 0)) (.cells #[.pointer none,.slice none 0 0] 82)
    simpa using this
   have hn2 : Wm.heap[N + 1 + 1]? = some (.cells #[.pointer none,.slice none 0 0] 82 (0,0)):=by
    rw [hWm,hN]
    have:=heap_new ((wr.alloc (.map #[] 0)).alloc (.cells #[.pointer none,.slice none 0 0] 82)) (.cells #[.pointer none,.slice none 0 0] 82)
    simpa using this
   have hbm : Go.RowKit.Below w.heap.size w Wm:=by
    rw [hWm]
    exact (((hbr.alloc hbr.size _).alloc (by simp;omega) _).alloc (by simp;omega) _)
   have hrm:=(hold _ hsr).trans hrr
   have htm : TabIs Wm N 0 []:=(TabIs.made wr).kept' (by rw [hn0];exact (heap_new _ _).symm) hN
   have h2m : Two (N + 1) (.slice none 0 0) (.slice none 0 0) [] [] Wm :=
    ⟨⟨Nat.le_refl _,_,.inl rfl,hn1,World.ownsRow_nil _ _ _ _,by simp [Value.ownBlock]⟩,⟨by omega,_,.inl rfl,hn2,World.ownsRow_nil _ _ _ _,by simp [Value.ownBlock]⟩,by simp [Value.ownBlock],by simp [Value.ownBlock],by simp [Value.ownBlock]⟩
   have hNw : w.heap.size < N:=by rw [hN];exact hsr
   rw [← hWm,← hN]
   clear hold hn0 hn1 hn2 hWm hN hrr hsr hbr
   go_loopw [27,3] (fun iv s3 wx => ∃ (k n : Nat) (va vb : Value) (L : List Mv) (x y : List UInt8),iv = .int .i64 k ∧ s3 = .int .i64 0 ∧ k ≤ ms.length ∧ foldT ms [] [] = foldT (ms.drop k) x y ∧ x.length ≤ 262144 ∧ y.length = x.length ∧ (x = [] → va = .slice none 0 0) ∧ (y = [] → vb = .slice none 0 0) ∧ TabIs wx N n L ∧ n ≤ k ∧ Two (N + 1) va vb x y wx ∧ wx.heap[w.heap.size]? = some (.cells #[.string ⟨#[]⟩,.string ⟨#[]⟩] 39 (0,0)) ∧ N + 3 ≤ wx.heap.size ∧ Go.RowKit.Below w.heap.size w wx) (fun iv _ _ => ms.length - (intOf iv).toNat)
   case atStart => exact ⟨0,0,_,_,[],[],[],rfl,rfl,Nat.zero_le _,rfl,by simp,rfl,fun _ => rfl,fun _ => rfl,htm,Nat.le_refl _,h2m,hrm,by omega,hbm⟩
   case round =>
    clear htm h2m hrm hbm hsm
    obtain ⟨k,n,va,vb,L,x,y,rfl,rfl,hk,hfo,hxl,hyl,hva,hvb,htx,hnk,h2x,hrx,hsx,hbx⟩:=hrel
    by_cases hlt : k < ms.length
    ·obtain ⟨c1,c2,hc⟩ : ∃ c1 c2 : Int,ms[k]? = some (c1,c2):=⟨_,_,List.getElem?_eq_getElem hlt⟩
     obtain ⟨b,o,rfl,hAb,f0,f1⟩:=HMOVES.out k _ hc
     have hbl:=hA b hAb
     have e0 : wr.cell? ⟨b,o + k * 2,none⟩ = some (.int .i64 c1):=(hbx.cell (p:=⟨b,o + k * 2,none⟩) hbl).trans f0
     have e1 : wr.cell? ⟨b,o + k * 2 + 1,none⟩ = some (.int .i64 c2):=(hbx.cell (p:=⟨b,o + k * 2 + 1,none⟩) hbl).trans f1
     have hg : rgtA c1 c2 = true:=List.all_eq_true.1 HQ.out _ (List.mem_of_getElem? hc)
     have hdrop : ms.drop k = (c1,c2) :: ms.drop (k + 1):=by
      rw [List.drop_eq_getElem_cons hlt]
      congr 1
      rw [List.getElem?_eq_getElem hlt] at hc
      exact Option.some.inj hc
     rw [hdrop] at hfo
     obtain ⟨p1,hp1⟩ : ∃ q,q = (pulA c1 c2).1:=⟨_,rfl⟩
     obtain ⟨p2,hp2⟩ : ∃ q,q = (pulA c1 c2).2:=⟨_,rfl⟩
     have hpl : pulV c1 c2 = .tuple #[.agg #[.string ⟨p1.toArray⟩,.string ⟨p2.toArray⟩],.int .i64 0]:=by unfold pulV;rw [hg,hp1,hp2];rfl
     have hpn:=pul_ne hg
     have hpb:=pul_len c1 c2
     rw [← hp1,← hp2] at hpn
     have hpl1 : p1.length ≤ 128:=by rw [hp1];exact hpb.1
     have hpl2 : p2.length = p1.length:=by rw [hp1,hp2];exact hpb.2
     have hrng:=rgt_rng (m:=(c1,c2)) hg
     have hkey:=keyOf_mv hrng
     have hal:=(Go.RowKit.Below.refl wr.heap.size wr).alloc (Nat.le_refl _) (.cells #[.int .i64 c1,.int .i64 c2] 23)
     have hs1 : (wr.alloc (.cells #[.int .i64 c1,.int .i64 c2] 23)).heap.size = wr.heap.size + 1:=by simp
     have hlk:=tab_run (htx.kept (hal.block _ (by omega))) hrng
     have HFO:=Lib.hid hfo
     have HC:=Lib.hid hc
     have HP1:=Lib.hid hp1
     have HP2:=Lib.hid hp2
     have HG:=Lib.hid hg
     have HVA:=Lib.hid hva
     have HVB:=Lib.hid hvb
     clear f0 f1 hc hdrop hfo hp1 hp2 hpb hg hva hvb
     have hw1 : w.heap.size < wr.heap.size:=by omega
     have h2b : (∀ q,va.ownBlock = some q → q < wr.heap.size) ∧ ∀ q,vb.ownBlock = some q → q < wr.heap.size:=⟨fun q e => (h2x.a.lt e).2,fun q e => (h2x.b.lt e).2⟩
     have hnew : ∀ (z1 z2 : Value),Go.RowKit.Below wr.heap.size wr ((wr.alloc (.cells #[.int .i64 c1,.int .i64 c2] 23)).alloc (.cells #[z1,z2] 39)) ∧ ((wr.alloc (.cells #[.int .i64 c1,.int .i64 c2] 23)).alloc (.cells #[z1,z2] 39)).heap[wr.heap.size]? = some (.cells #[.int .i64 c1,.int .i64 c2] 23 (0,0)) ∧ ((wr.alloc (.cells #[.int .i64 c1,.int .i64 c2] 23)).alloc (.cells #[z1,z2] 39)).heap[wr.heap.size + 1]? = some (.cells #[z1,z2] 39 (0,0)) ∧ ((wr.alloc (.cells #[.int .i64 c1,.int .i64 c2] 23)).alloc (.cells #[z1,z2] 39)).heap.size = wr.heap.size + 2:=fun z1 z2 =>
      ⟨hal.alloc (by rw [hs1];omega) _,(Lib.alloc_old _ _ _ (by rw [hs1];omega)).trans (heap_new _ _),by have:=heap_new (wr.alloc (.cells #[.int .i64 c1,.int .i64 c2] 23)) (.cells #[z1,z2] 39);rwa [hs1] at this,by simp⟩
     have HNEW:=Lib.hid hnew
     clear hnew hal
     by_cases hd : (c1,c2) ∈ L
     case' pos =>
      simp only [gotA,if_pos hd,decide_eq_true hd,strV,← HP1.out,← HP2.out] at hlk
      go_wp2_with fail
      obtain ⟨k0,k1,k2,k3⟩:=HNEW.out (.string ⟨p1.toArray⟩) (.string ⟨p2.toArray⟩)
      clear hlk
      generalize ((wr.alloc (.cells #[.int .i64 c1,.int .i64 c2] 23)).alloc (.cells #[.string ⟨p1.toArray⟩,.string ⟨p2.toArray⟩] 39)) = W5 at k0 k1 k2 k3 ⊢
      have ht5 : ∃ n5 L5,TabIs W5 N n5 L5 ∧ n5 ≤ k + 1:=⟨n,L,htx.kept (k0.block _ (by omega)),by omega⟩
      have h25:=h2x.grown k0
      have hr5:=(k0.block _ hw1).trans hrx
      have hs5 : wr.heap.size + 2 ≤ W5.heap.size:=by omega
      have hb5:=hbx.trans (k0.mono (Nat.le_of_lt hw1))
      clear k0 k1 k3 htx h2x hrx hbx hs1 hkey hrng
     case' neg =>
      simp only [gotA,if_neg hd,decide_eq_false hd,strV] at hlk
      obtain ⟨k0,k1,k2,k3⟩:=HNEW.out (.string ⟨#[]⟩) (.string ⟨#[]⟩)
      have hbc:=hbx.trans (k0.mono (Nat.le_of_lt hw1))
      have hpul:=pulses_calls (ext hbc).1 (ext hbc).2 c1 c2
      rw [hpl] at hpul
      go_wp2_with fail
      refine hpul.mono ?_
      rintro e W3 ⟨rfl,hb3⟩
      clear hpul hlk
      generalize ((wr.alloc (.cells #[.int .i64 c1,.int .i64 c2] 23)).alloc (.cells #[.string ⟨#[]⟩,.string ⟨#[]⟩] 39)) = Wc at k0 k1 k2 k3 hbc hb3
      have hb03:=k0.trans (hb3.mono (by omega))
      have j1:=(hb3.block _ (by omega)).trans k1
      have j2:=(hb3.block _ (by omega)).trans k2
      obtain ⟨_,_,d0,d1⟩:=cells2 j2
      have ht3:=htx.kept (hb03.block _ (by omega))
      have h23:=h2x.grown hb03
      have hr3:=(hb03.block _ hw1).trans hrx
      have hs3 : wr.heap.size + 2 ≤ W3.heap.size:=by have:=hb3.size;omega
      have hbw3:=hbx.trans (hb03.mono (Nat.le_of_lt hw1))
      clear htx h2x hrx hbx hbc hb3 hb03 k0 k1 k2 k3 hs1
      have hoth : ∀ q,q ≠ wr.heap.size + 1 → ((W3.setCell ⟨wr.heap.size + 1,0,none⟩ (.string ⟨p1.toArray⟩)).setCell ⟨wr.heap.size + 1,1,none⟩ (.string ⟨p2.toArray⟩)).heap[q]? = W3.heap[q]?:=fun q hq => (heap_other hq).trans (heap_other hq)
      have i1:=(hoth wr.heap.size (by omega)).trans j1
      have i2:=box2_set (u:=.string ⟨p1.toArray⟩) (v:=.string ⟨p2.toArray⟩) j2
      obtain ⟨y0,y1,_,_⟩:=cells2 i1
      obtain ⟨z0,z1,_,_⟩:=cells2 i2
      have ht4:=ht3.kept (hoth N (by omega))
      have h24:=h23.kept fun q _ hq => hoth q (by
       rcases hq with e | e | e | e
       ·omega
       ·omega
       ·have:=(h2b.1 q e);omega
       ·have:=(h2b.2 q e);omega)
      have hr4:=(hoth _ (by omega)).trans hr3
      have hbw4:=(hbw3.setCell (p:=⟨wr.heap.size + 1,0,none⟩) (by show w.heap.size ≤ wr.heap.size + 1;omega) (.string ⟨p1.toArray⟩)).setCell (p:=⟨wr.heap.size + 1,1,none⟩) (by show w.heap.size ≤ wr.heap.size + 1;omega) (.string ⟨p2.toArray⟩)
      have hs4 : wr.heap.size + 2 ≤ ((W3.setCell ⟨wr.heap.size + 1,0,none⟩ (.string ⟨p1.toArray⟩)).setCell ⟨wr.heap.size + 1,1,none⟩ (.string ⟨p2.toArray⟩)).heap.size:=by simpa using hs3
      obtain ⟨es,ho,hperm,hrngs⟩:=ht4
      have HPERM:=Lib.hid hperm
      have HRNGS:=Lib.hid hrngs
      have H24:=Lib.hid h24
      have HB4:=Lib.hid hbw4
      have HR4:=Lib.hid hr4
      have HK:=Lib.hid hkey
      have HI2:=Lib.hid i2
      clear hperm hrngs h24 hbw4 hr4 hkey hoth i1 ht3 h23 hr3 hs3 hbw3 j1 j2
      go_wp2_with (first
       | (at_mapUpdate;refine wpList_mapUpdate_own _ rfl _ _ _ 78 rfl 23 39 keyed23 Tryz.underlying78 trR N n (.map es) rfl ho (by unfold maxLen;omega) _ _ _ rfl rfl HK.out (trD p1 p2) [] rfl ?_;intro W5 hown4 hgrow4)
       | fail)
      have hoth4 : ∀ q,q < wr.heap.size + 2 → q ≠ N → W5.heap[q]? = _:=fun q hq hne => hgrow4.block q (by omega) (fun e => hne (by injection e with e))
      have k2:=(hoth4 _ (by omega) (by omega)).trans HI2.out
      have ht5 : ∃ n5 L5,TabIs W5 N n5 L5 ∧ n5 ≤ k + 1:=⟨n + 1,(c1,c2) :: L,⟨_,hown4,by rw [HP1.out,HP2.out];exact tab_put HPERM.out HRNGS.out hrng hd,fun c hc => by
       rcases List.mem_cons.1 hc with rfl | hc
       ·exact hrng
       ·exact HRNGS.out c hc⟩,by omega⟩
      have h25:=H24.out.kept fun q _ hq => hoth4 q (by
       rcases hq with e | e | e | e
       ·omega
       ·omega
       ·have:=(h2b.1 q e);omega
       ·have:=(h2b.2 q e);omega) (by
       rcases hq with e | e | e | e
       ·omega
       ·omega
       ·have:=(H24.out.a.lt e).1;omega
       ·have:=(H24.out.b.lt e).1;omega)
      have hr5:=(hoth4 _ (by omega) (by omega)).trans HR4.out
      have hs5 : wr.heap.size + 2 ≤ W5.heap.size:=by have:=hgrow4.size;omega
      have hb5 : Go.RowKit.Below w.heap.size w W5:=HB4.out.grown hgrow4 HB4.out.size (fun j e => by injection e with e;omega)
      clear hoth4 hown4 hgrow4 HI2 HK ho z0 z1 y0 y1 hrng
     all_goals
      (refine wp_region_still_lit (by kernel_rfl) (by kernel_rfl) ?_
       have k26 : ({ W5 with drawn:=W5.drawn + 1 } : World).heap[wr.heap.size + 1]? = _:=k2
       have ht6 : ∃ n5 L5,TabIs ({ W5 with drawn:=W5.drawn + 1 } : World) N n5 L5 ∧ n5 ≤ k + 1:=ht5
       have h26 : Two (N + 1) va vb x y ({ W5 with drawn:=W5.drawn + 1 } : World):=h25.kept fun _ _ _ => rfl
       have hr6 : ({ W5 with drawn:=W5.drawn + 1 } : World).heap[w.heap.size]? = _:=hr5
       have hs6 : wr.heap.size + 2 ≤ ({ W5 with drawn:=W5.drawn + 1 } : World).heap.size:=hs5
       have hb6 : Go.RowKit.Below w.heap.size w ({ W5 with drawn:=W5.drawn + 1 } : World):=⟨hb5.os,hb5.tape,hb5.output,hb5.size,hb5.block⟩
       clear k2 ht5 h25 hr5 hs5 hb5
       generalize ({ W5 with drawn:=W5.drawn + 1 } : World) = W6 at k26 ht6 h26 hr6 hs6 hb6 ⊢
       obtain ⟨q0,q1,_,_⟩:=cells2 k26
       have hsz1 : (ByteArray.mk p1.toArray).size = p1.length:=rfl
       have hwr : IntKind.i64.wrap ((x.length : Int) + (p1.length : Int)) = (x.length : Int) + (p1.length : Int):=wrap64 (by omega) (by omega)
       still_call (lenA h26)
       repeat still_step
       refine wpStill_nil ?_
       by_cases hlong : x.length + p1.length ≤ 262144
       ·have hlong' : ¬ ((262144 : Int) < (x.length : Int) + (p1.length : Int)):=by omega
        have hwa:=writeA h26 p1 (by omega) (by omega)
        have hfo':=HFO.out.trans (fold_go (m:=(c1,c2)) (by show x.length + (pulA c1 c2).1.length ≤ 262144;rw [← HP1.out];exact hlong))
        have HFO2:=Lib.hid hfo'
        have HK26:=Lib.hid k26
        have HR6:=Lib.hid hr6
        clear hfo' k26 hr6
        go_wp2_with fail
        refine hwa.mono ?_
        rintro e W7 ⟨⟨z,rfl⟩,v1,h27,hb7,hk7⟩
        clear hwa
        have k27:=(hk7 (wr.heap.size + 1) (by omega) (by omega) (fun e => by have:=h2b.1 _ e;omega)).trans HK26.out
        obtain ⟨r0,r1,_,_⟩:=cells2 k27
        have hr7:=(hb7.block w.heap.size (by omega)).trans HR6.out
        have hs7:=hb7.size
        have hwb:=writeB h27 p2 (by omega) (by omega)
        have HR7:=Lib.hid hr7
        clear q0 q1 k27 hr7 hk7
        go_wp2_with fail
        refine hwb.mono ?_
        rintro e W8 ⟨⟨z2,rfl⟩,v2,h28,hb8⟩
        clear hwb r0 r1
        have hs8:=hb8.size
        obtain ⟨n5,L5,t5,hn5⟩:=ht6
        go_wp2_with fail
        refine ⟨⟨k + 1,n5,v1,v2,L5,x ++ p1,y ++ p2,by go_num,rfl,by omega,?_,by rw [List.length_append];exact hlong,by rw [List.length_append,List.length_append];omega,fun e => absurd (List.append_eq_nil_iff.1 e).2 hpn.1,fun e => absurd (List.append_eq_nil_iff.1 e).2 hpn.2,(t5.kept (hb7.block N (by omega))).kept (hb8.block N (by omega)),hn5,h28,(hb8.block w.heap.size (by omega)).trans HR7.out,by omega,(hb6.trans (hb7.mono (by omega))).trans (hb8.mono (by omega))⟩,by simp [intOf];omega⟩
        rw [HFO2.out,HP1.out,HP2.out]
       ·have hlong' : (262144 : Int) < (x.length : Int) + (p1.length : Int):=by omega
        have HR:=Lib.hid (trainR_long HQ.out (HFO.out.trans (fold_stop (m:=(c1,c2)) (by show ¬ x.length + (pulA c1 c2).1.length ≤ 262144;rw [← HP1.out];exact hlong))))
        obtain ⟨m0,m1,m2,m3⟩:=cells2 hr6
        have HR6:=Lib.hid hr6
        clear hr6
        go_wp2_with fail
        have hf:=box2_set (u:=.string ⟨#[]⟩) (v:=.string ⟨#[]⟩) HR6.out
        have hbf:=(hb6.setCell (p:=⟨w.heap.size,0,none⟩) (Nat.le_refl _) (.string ⟨#[]⟩)).setCell (p:=⟨w.heap.size,1,none⟩) (Nat.le_refl _) (.string ⟨#[]⟩)
        generalize ((W6.setCell ⟨w.heap.size,0,none⟩ (.string ⟨#[]⟩)).setCell ⟨w.heap.size,1,none⟩ (.string ⟨#[]⟩)) = Wf at hf hbf ⊢
        obtain ⟨c0',c1'',_,_⟩:=cells2 hf
        refine bodyPost_ret (v:=.tuple #[.agg #[.string ⟨#[]⟩,.string ⟨#[]⟩],.int .i64 83]) (by rw [results_cell_tmp Tryz.results23];go_simp) rfl ?_
        exact ⟨by rw [HR.out];rfl,hbf⟩)
    ·have hkl : k = ms.length:=by omega
     subst hkl
     rw [List.drop_length] at hfo
     have hR:=trainR_good HQ.out hfo
     have HR:=Lib.hid hR
     have HVB:=Lib.hid hvb
     have hta:=two_text h2x hva (by omega)
     have HRX:=Lib.hid hrx
     clear hR hfo hvb hva hrx
     go_wp2_with fail
     refine hta.mono ?_
     rintro e W5 ⟨rfl,hb5,hbl5⟩
     clear hta
     have htb:=one_text hbl5 HVB.out (by have:=hb5.size;omega)
     go_wp2_with fail
     refine htb.mono ?_
     rintro e W6 ⟨rfl,hb6⟩
     have hs5:=hb5.size
     have hr6:=(hb6.block w.heap.size (by omega)).trans ((hb5.block w.heap.size (by omega)).trans HRX.out)
     obtain ⟨m0,m1,m2,m3⟩:=cells2 hr6
     have hbw6:=(hbx.trans (hb5.mono (by omega))).trans (hb6.mono (by omega))
     have HR6:=Lib.hid hr6
     clear htb hr6
     go_wp2_with fail
     have hf:=box2_set (u:=.string ⟨x.toArray⟩) (v:=.string ⟨y.toArray⟩) HR6.out
     have hbf:=(hbw6.setCell (p:=⟨w.heap.size,0,none⟩) (Nat.le_refl _) (.string ⟨x.toArray⟩)).setCell (p:=⟨w.heap.size,1,none⟩) (Nat.le_refl _) (.string ⟨y.toArray⟩)
     generalize ((W6.setCell ⟨w.heap.size,0,none⟩ (.string ⟨x.toArray⟩)).setCell ⟨w.heap.size,1,none⟩ (.string ⟨y.toArray⟩)) = Wf at hf hbf ⊢
     obtain ⟨c0',c1'',_,_⟩:=cells2 hf
     refine bodyPost_ret (v:=.tuple #[.agg #[.string ⟨x.toArray⟩,.string ⟨y.toArray⟩],.int .i64 0]) (by rw [results_cell_tmp Tryz.results23];go_simp) rfl ?_
     exact ⟨by rw [HR.out];rfl,hbf⟩
end Go.Proofs.YtpffkpaiihcffaaGreatDoor
end
section
namespace Go.Proofs.YtpffkpaiihcffaaGreatDoor
open Go Go.Proofs Go.Proofs.YtpffkpaiihcffaaGreatDoor.VM Go.RowKit Go.Shelf Go.Lib Go.Sort
theorem str_fr {w : World} {A : Nat → Prop} (l : List UInt8) : FR w A (.str l) (strV l):=.str ⟨l.toArray⟩
theorem train_fr {w : World} {A : Nat → Prop} (a b : List UInt8) : FR w A (.agg [.str a,.str b]) (.agg #[strV a,strV b]) :=
 FR.agg [.str a,.str b] [strV a,strV b] rfl (fun u hu => (List.mem_cons.1 hu).elim (fun e => by rw [e];rfl) (fun e => by rw [List.mem_singleton.1 e];rfl)) fun k y u hy hu => by
  match k,hy,hu with
  | 0,hy,hu => cases hy;cases hu;exact str_fr _
  | 1,hy,hu => cases hy;cases hu;exact str_fr _
  | k + 2,hy,hu => simp at hy
theorem train_rets {fn : Func} (hs : fn.resultTypes.size = 2) (hr : fn.resultTypes.toList = [39,25]) {w w' : World} {A : Nat → Prop} (hA : ∀ b,A b → b < w.heap.size) (hb : Go.RowKit.Below w.heap.size w w') (a b : List UInt8) (n : Int) :
  Ret E [] fn w A (trainF a b n) (.tuple #[.agg #[strV a,strV b],.int .i64 n]) w':=by
 refine ⟨A,[.agg #[strV a,strV b],.int .i64 n],[.agg [.str a,.str b],.int .i64 n],[],⟨fun _ h => h,fun k hk => hb.block k (hA k hk)⟩,fun k h => .inl h,fun k h => Nat.lt_of_lt_of_le (hA k h) hb.size,hb,rfl,rfl,by rw [hs];rfl,?_,List.nodup_nil,fun k hk => by cases hk⟩
 rw [hr]
 refine ⟨[],[],rfl,⟨train_fr a b,fun h => ?_,rfl⟩,[],[],rfl,⟨.int _ _,fun _ => rfl,rfl⟩,rfl⟩
 have e : (E.ty 39).isAgg = true:=by kernel_rfl
 rw [e] at h;cases h
theorem pul_ov {xs : List FV} {y : FV} (h : pulOv xs = some y) {cs : List Value} {w : World} {A : Nat → Prop} (hA : ∀ b,A b → b < w.heap.size) (ha : ArgsR E w A (pars E Tryz.f24) xs cs) :
  Calls Tryz.prog 24 cs.toArray w fun e w' => ∃ v,e = .returned v ∧ Ret E [] Tryz.f24 w A y v w':=by
 unfold pulOv at h
 split at h
 ·rename_i k s
  cases h
  obtain ⟨a1,a2,gl,a3⟩:=ha
  have hp : pars E Tryz.f24 = [23]:=by kernel_rfl
  rw [hp] at a1 a3
  match cs,a2 with
  | [u],_ =>
   obtain ⟨f0,_⟩:=a3 0 _ _ _ rfl rfl rfl
   have hu : u = .agg #[.int .i64 k,.int .i64 s]:=by
    generalize hx : FV.agg [.int .i64 k,.int .i64 s] = x at f0
    cases f0 with
    | agg xs us hl h1 hc =>
     cases hx
     match us,hl with
     | [u1,u2],_ =>
      have g1:=hc 0 _ _ rfl rfl
      have g2:=hc 1 _ _ rfl rfl
      cases g1;cases g2;rfl
    | _ => cases hx
   subst hu
   refine (pulses_calls hA gl k s).mono fun e w' ⟨he,hb⟩ => ⟨_,he,?_⟩
   unfold pulR pulV
   cases rgtA k s with
   | false => exact train_rets (by kernel_rfl) (by kernel_rfl) hA hb _ _ _
   | true => exact train_rets (by kernel_rfl) (by kernel_rfl) hA hb _ _ _
 ·cases h
theorem trainA_eq (ms : List Mv) : trainA ms = trainF (trainR ms).1 (trainR ms).2.1 (trainR ms).2.2:=by
 unfold trainA trainR
 cases ms.all fun m => rgtA m.1 m.2 with
 | false => rfl
 | true => cases foldT ms [] [] <;> rfl
theorem train_ov {xs : List FV} {y : FV} (h : trainOv xs = some y) {cs : List Value} {w : World} {A : Nat → Prop} (hA : ∀ b,A b → b < w.heap.size) (ha : ArgsR E w A (pars E Tryz.f23) xs cs) :
  Calls Tryz.prog 23 cs.toArray w fun e w' => ∃ v,e = .returned v ∧ Ret E [] Tryz.f23 w A y v w':=by
 unfold trainOv at h
 split at h
 ·rename_i l
  obtain ⟨r,h1,h⟩:=bindO_some h
  obtain ⟨ms,h2,h⟩:=bindO_some h
  obtain ⟨h3,h⟩:=gB_some h
  cases h
  obtain ⟨a1,a2,gl,a3⟩:=ha
  have hp : pars E Tryz.f23 = [33]:=by kernel_rfl
  rw [hp] at a1 a3
  match cs,a2 with
  | [u],_ =>
   obtain ⟨f0,_⟩:=a3 0 _ _ _ rfl rfl rfl
   refine (train_walk w hA gl (movesR_of f0 h1 h2) (of_decide_eq_true h3)).mono fun e w' ⟨he,hb⟩ => ⟨_,he,?_⟩
   rw [trainA_eq]
   exact train_rets (by kernel_rfl) (by kernel_rfl) hA hb _ _ _
 ·cases h
theorem ov_four {g : Nat} {f : List FV → Option FV} (h : ovT g = some f) : (g = 35 ∧ f = canonOv) ∨ (g = 43 ∧ f = readOv) ∨ (g = 23 ∧ f = trainOv) ∨ (g = 24 ∧ f = pulOv):=by
 unfold ovT at h
 split at h <;> cases h
 all_goals first
  | exact .inl ⟨rfl,rfl⟩
  | exact .inr (.inl ⟨rfl,rfl⟩)
  | exact .inr (.inr (.inl ⟨rfl,rfl⟩))
  | exact .inr (.inr (.inr ⟨rfl,rfl⟩))
theorem ovOk : OvSpec Tryz.prog E where
 plain:=fun g f hf xs y own lend fn hm hg h cs w A hA ha => by
  rcases ov_four hf with ⟨rfl,rfl⟩ | ⟨rfl,rfl⟩ | ⟨rfl,rfl⟩ | ⟨rfl,rfl⟩
  ·have e1 : E.mode 35 = .call [] false:=by kernel_rfl
   have e2 : E.fn 35 = some Tryz.f35:=by kernel_rfl
   rw [e1] at hm;rw [e2] at hg;cases hm;cases hg
   exact canon_ov h hA ha
  ·have e1 : E.mode 43 = .call [] false:=by kernel_rfl
   have e2 : E.fn 43 = some Tryz.f43:=by kernel_rfl
   rw [e1] at hm;rw [e2] at hg;cases hm;cases hg
   exact read_ov h hA ha
  ·have e1 : E.mode 23 = .call [] false:=by kernel_rfl
   have e2 : E.fn 23 = some Tryz.f23:=by kernel_rfl
   rw [e1] at hm;rw [e2] at hg;cases hm;cases hg
   exact train_ov h hA ha
  ·have e1 : E.mode 24 = .call [] false:=by kernel_rfl
   have e2 : E.fn 24 = some Tryz.f24:=by kernel_rfl
   rw [e1] at hm;rw [e2] at hg;cases hm;cases hg
   exact pul_ov h hA ha
 none:=fun g f hf ls own hm => by
  rcases ov_four hf with ⟨rfl,rfl⟩ | ⟨rfl,rfl⟩ | ⟨rfl,rfl⟩ | ⟨rfl,rfl⟩
  ·have e1 : E.mode 35 = .call [] false:=by kernel_rfl
   rw [e1] at hm;cases hm
  ·have e1 : E.mode 43 = .call [] false:=by kernel_rfl
   rw [e1] at hm;cases hm
  ·have e1 : E.mode 23 = .call [] false:=by kernel_rfl
   rw [e1] at hm;cases hm
  ·have e1 : E.mode 24 = .call [] false:=by kernel_rfl
   rw [e1] at hm;cases hm
end Go.Proofs.YtpffkpaiihcffaaGreatDoor
end
