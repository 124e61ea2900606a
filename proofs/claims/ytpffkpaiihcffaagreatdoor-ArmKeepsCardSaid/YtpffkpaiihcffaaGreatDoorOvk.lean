/- Steps of the proof: The examples of the chapter, run by the abstract machine; What arm.Pulses answers, over the small environment: one closed evaluation for each move; Writing to a strings.Builder beside another one: what is written, and that nothing else turns; The map of trains by moves; two builders side by side; The text of a builder: what else stays; arm.TrainOf: what it answers at any moves; arm.TrainOf's and arm.Pulses' answers stand for their calls; the overrides together; The map of states by places: what it holds, read, written, struck, and ranged over; arm.After by the abstract machine without other answers; its call in whatever world; arm.site's ground, may: what they answer of a map of states; arm.site's may; arm.World: what it answers at any moves and cells; arm.World's answer stands for its call; The overrides stand where what they hand out is the caller's own: Canon, World; and read, TrainOf, Pulses; The five overrides stand. -/
import Derived.Test.YtpffkpaiihcffaaGreatDoorEnv
import Derived.KernelRfl
import Derived.Test.YtpffkpaiihcffaaGreatDoorCanQ
import Derived.Test.YtpffkpaiihcffaaGreatDoorCanR
import Derived.Test.YtpffkpaiihcffaaGreatDoorOks
import Derived.Test.YtpffkpaiihcffaaGreatDoorPulE
import Derived.Test.YtpffkpaiihcffaaGreatDoorCel
import Derived.WalkKit
import Derived.Test.YtpffkpaiihcffaaGreatDoorCanP
import Derived.Maps.OwnSet
import Derived.Maps.OwnOps
import Derived.StillTailTactics
import Derived.Deep.DeepCutAuto
import Derived.Deep.CutBlock
import Derived.Maps.RangeWalk
import Derived.ChangeKeysEq
import Derived.Laws.StructEq
import Derived.Deep.RegionWith
set_option linter.unusedVariables false
set_option linter.unusedSectionVars false
set_option linter.unusedSimpArgs false
section
namespace Go.Proofs.YtpffkpaiihcffaaGreatDoor
open Go Go.Proofs.YtpffkpaiihcffaaGreatDoor.VM
theorem awake_run : callF E 400 15 [] = some (.bool true):=by kernel_rfl
theorem awake_true : law08_awake = some (.bool true):=(den_cv E 15 []).of 400 _ awake_run
end Go.Proofs.YtpffkpaiihcffaaGreatDoor
end
section
namespace Go.Proofs.YtpffkpaiihcffaaGreatDoor.Z
open Go Go.Proofs Go.Proofs.YtpffkpaiihcffaaGreatDoor.VM Go.RowKit
theorem formed_p (k c : Int) : arm_formed (.agg [.int .i64 k,.int .i64 c]) = some (.bool (rgtA k c)):=by
 obtain ⟨w,h⟩:=word_z c
 rw [arm_formed.eq]
 simp only [fIsAgg_agg,List.length_cons,List.length_nil,fCell_zero,fCell_succ,fBin_geq,fBin_leq,bindO_s,fCond_b,arm_formed.L0_eq,fBin_eql,h,rgtA,fIsTup_tup,fTup_zero,fTup_succ]
 by_cases h7 : k = 7
 ·subst h7;simp
 by_cases h8 : k = 8
 ·subst h8;simp
 by_cases h1 : 1 ≤ k <;> by_cases h2 : k ≤ 6 <;> simp [h1,h2,h7,h8]
theorem pul_of {k s : Int} (h : pulB k s) : arm_Pulses (.agg [.int .i64 k,.int .i64 s]) = some (pulR k s):=(den_cv E 24 [.agg [.int .i64 k,.int .i64 s]]).of 400 _ h
theorem rgt_cases {k s : Int} (h : rgtA k s = true) : (s = 0 ∧ (k = 1 ∨ k = 2 ∨ k = 3 ∨ k = 4 ∨ k = 5 ∨ k = 6)) ∨ ((k = 7 ∨ k = 8) ∧ (s = 9 ∨ s = 10 ∨ s = 11 ∨ s = 12 ∨ s = 17 ∨ s = 18 ∨ s = 19 ∨ s = 20 ∨ s = 25)):=by
 unfold rgtA at h
 split at h
 ·rename_i hk
  right
  refine ⟨hk,?_⟩
  simpa [quietC] using h
 ·simp only [Bool.and_eq_true,decide_eq_true_eq] at h
  left
  omega
theorem pulses_z (k s : Int) : arm_Pulses (.agg [.int .i64 k,.int .i64 s]) = some (pulR k s):=by
 cases h : rgtA k s with
 | false =>
  rw [arm_Pulses.eq]
  simp only [fIsAgg_agg,List.length_cons,List.length_nil,fCell_zero,fCell_succ,formed_p,bindO_s,fUn_not,fCond_b,gB_t,Nat.zero_add,Nat.reduceAdd,beq_self_eq_true,h,pulR,trainF]
  rfl
 | true =>
  apply pul_of
  have hcs:=rgt_cases h
  clear h
  rcases hcs with ⟨rfl,h⟩ | ⟨h,h2⟩
  ·rcases h with rfl | rfl | rfl | rfl | rfl | rfl
   ·exact pul_1_0
   ·exact pul_2_0
   ·exact pul_3_0
   ·exact pul_4_0
   ·exact pul_5_0
   ·exact pul_6_0
  ·rcases h with rfl | rfl
   ·rcases h2 with rfl | rfl | rfl | rfl | rfl | rfl | rfl | rfl | rfl
    ·exact pul_7_9
    ·exact pul_7_10
    ·exact pul_7_11
    ·exact pul_7_12
    ·exact pul_7_17
    ·exact pul_7_18
    ·exact pul_7_19
    ·exact pul_7_20
    ·exact pul_7_25
   ·rcases h2 with rfl | rfl | rfl | rfl | rfl | rfl | rfl | rfl | rfl
    ·exact pul_8_9
    ·exact pul_8_10
    ·exact pul_8_11
    ·exact pul_8_12
    ·exact pul_8_17
    ·exact pul_8_18
    ·exact pul_8_19
    ·exact pul_8_20
    ·exact pul_8_25
end Go.Proofs.YtpffkpaiihcffaaGreatDoor.Z
namespace Go.Proofs.YtpffkpaiihcffaaGreatDoor
open Go Go.Proofs Go.Proofs.YtpffkpaiihcffaaGreatDoor.VM Go.RowKit Go.Shelf
def strV (l : List UInt8) : Value:=.string ⟨l.toArray⟩
theorem str_v {w : World} {A : Nat → Prop} {l : List UInt8} {v : Value} (h : FR w A (.str l) v) : v = strV l:=by
 generalize hx : FV.str l = x at h
 cases h with
 | str s => cases hx;rfl
 | _ => cases hx
theorem train_v {w : World} {A : Nat → Prop} {a b : List UInt8} {v : Value} (h : FR w A (.agg [.str a,.str b]) v) : v = .agg #[strV a,strV b]:=by
 generalize hx : FV.agg [.str a,.str b] = x at h
 cases h with
 | agg xs us hl h1 hc =>
  cases hx
  match us,hl with
  | [u1,u2],_ =>
   rw [str_v (hc 0 _ _ rfl rfl),str_v (hc 1 _ _ rfl rfl)]
 | _ => cases hx
section
variable {w : World} {A : Nat → Prop} (hA : ∀ b,A b → b < w.heap.size) (gl : GlobR w A)
include hA gl
theorem args_mv (k s : Int) {ts : List Nat} (ht : ts = [23]) : ArgsR Z.E w A ts [.agg [.int .i64 k,.int .i64 s]] [.agg #[.int .i64 k,.int .i64 s]]:=by
 subst ht
 refine ⟨rfl,rfl,gl,fun i t y u ht hy hu => ?_⟩
 match i,ht,hy,hu with
 | 0,ht,hy,hu =>
  cases hy;cases hu;cases ht
  refine ⟨FR.agg [.int .i64 k,.int .i64 s] [.int .i64 k,.int .i64 s] rfl (by simp [Value.oneCell']) fun j y u hy hu => ?_,fun hh => ?_⟩
  ·match j,hy,hu with
   | 0,hy,hu => cases hy;cases hu;exact .int _ _
   | 1,hy,hu => cases hy;cases hu;exact .int _ _
   | j + 2,hy,hu => simp at hy
  ·have e : (Z.E.ty 23).isAgg = true:=by kernel_rfl
   rw [e] at hh;cases hh
 | i + 1,ht,hy,hu => simp at hy
theorem formed_calls (k s : Int) : Calls Tryz.prog 38 #[.agg #[.int .i64 k,.int .i64 s]] w fun e w' => e = .returned (.bool (rgtA k s)) ∧ Go.RowKit.Below w.heap.size w w' :=
 (z_calls (fn:=Tryz.f38) (cs:=[.agg #[.int .i64 k,.int .i64 s]]) (by kernel_rfl) (by kernel_rfl) (by kernel_rfl) (Z.formed_p k s) hA (args_mv hA gl k s (by kernel_rfl))).mono fun e w' ⟨v,he,hr⟩ => by
  obtain ⟨⟨A',h⟩,hb⟩:=ret_one hr (by kernel_rfl)
  cases h
  exact ⟨he,hb⟩
def pulV (k s : Int) : Value:=match rgtA k s with
 | false => .tuple #[.agg #[strV [],strV []],.int .i64 80]
 | true => .tuple #[.agg #[strV (pulA k s).1,strV (pulA k s).2],.int .i64 0]
theorem pulses_calls (k s : Int) : Calls Tryz.prog 24 #[.agg #[.int .i64 k,.int .i64 s]] w fun e w' => e = .returned (pulV k s) ∧ Go.RowKit.Below w.heap.size w w':=by
 refine (z_calls (fn:=Tryz.f24) (cs:=[.agg #[.int .i64 k,.int .i64 s]]) (by kernel_rfl) (by kernel_rfl) (by kernel_rfl) (Z.pulses_z k s) hA (args_mv hA gl k s (by kernel_rfl))).mono fun e w' ⟨v,he,hr⟩ => ?_
 obtain ⟨A',us,ys,obs,q1,q2,q3,q4,rfl,hy,q5,q6,_,_⟩:=hr
 rw [show Tryz.f24.resultTypes.size = 2 by kernel_rfl] at q5
 have key : ∀ (a b : List UInt8) (n : Int),trainF a b n = packF ys → packVal us = .tuple #[.agg #[strV a,strV b],.int .i64 n]:=by
  intro a b n hy
  match ys,q5 with
  | [y1,y2],_ =>
   simp only [trainF,packF,FV.tup.injEq,List.cons.injEq,and_true] at hy
   obtain ⟨rfl,rfl⟩:=hy
   rw [show Tryz.f24.resultTypes.toList = [39,25] by kernel_rfl] at q6
   match us,q6 with
   | [u1,u2],q6 =>
    obtain ⟨_,_,_,h1,_,_,_,h2,_⟩:=q6
    have g1 : FR w' A' (.agg [.str a,.str b]) u1:=h1.1
    have g2 : FR w' A' (.int .i64 n) u2:=h2.1
    rw [train_v g1]
    generalize hx : FV.int .i64 n = x at g2
    cases g2 with
    | int kk m => cases hx;rfl
    | _ => cases hx
 refine ⟨?_,q4⟩
 rw [he]
 unfold pulR at hy
 unfold pulV
 cases hq : rgtA k s with
 | false => rw [hq] at hy;rw [key _ _ _ hy]
 | true => rw [hq] at hy;rw [key _ _ _ hy]
end
end Go.Proofs.YtpffkpaiihcffaaGreatDoor
end
section
namespace Go.Proofs.YtpffkpaiihcffaaGreatDoor
open Go Go.Proofs Go.RowKit Go.Lib
section
variable {P : Program} (w : World)
theorem append_str_at (base : Nat) (t u ty e : TypeId) (i : TypeInfo) (ht : P.underlying t = some (.slice e)) (hu : P.underlying u = some .string) (hi : P.info? e = some i) (hz : i.zero = some (.int .u8 0)) (hsize : i.size = 1) (hby : i.bytes = 1)
  (v : Value) (n : Nat) (xs : List Value) (hown : w.ownsRow base e 1 v n xs) (s : ByteArray) (h63 : n + s.size ≤ maxLen) (hbytes : n + s.size ≤ 140737488355328) (hbase : base ≤ w.heap.size) :
  ∃ v' w',(Builtin.append_ #[t,u] ty #[v,.string s]).run P w = .ok v' w' ∧ w'.ownsRow base e 1 v' (n + s.size) (xs ++ strCells s) ∧ w.grownBy w' v.ownBlock ∧ (v'.ownBlock = v.ownBlock ∨ v'.ownBlock = some w.heap.size):=by
 obtain ⟨v',w',hr,h2,h3,h4⟩:=run_append_own_string (P:=P) w base t u ty e i ht hu hi hz hsize hby v n xs hown s h63 hbytes hbase
 refine ⟨v',w',hr,h2,h3,?_⟩
 have hsmall : n + s.size ≤ 9223372036854775807:=by simp only [maxLen] at h63;omega
 have hxl : xs.length = n:=by simpa using hown.1
 rcases hown.2 with ⟨rfl,rfl⟩ | ⟨g,cap,cur,rfl,hbg,hg,hnc,hcm,hcs,htake⟩
 ·by_cases hm : s.size = 0
  ·rw [h4.2 ⟨rfl,hm⟩];exact .inl rfl
  ·have hr':=run_append_nil_string (P:=P) w t u ty e i (.int .u8 0) ht hu hi hz s (by omega) (by omega) (by rw [hby];omega)
   have:=hr.symm.trans hr'
   injection this with h5 h6
   rw [h5];exact .inr rfl
 ·by_cases hroom : n + s.size ≤ cap
  ·have hcs' : cur.size = cap:=by simpa using hcs
   have hr':=run_append_room_string (P:=P) w t u ty e i ht hu hi hsize g n cap cur hg s hroom (by omega)
   have:=hr.symm.trans hr'
   injection this with h5 h6
   rw [h5];exact .inl rfl
  ·have holds : ∀ j u,xs[j]? = some u → w.cell? ((⟨g,0,none⟩ : Addr).add j) = some u:=hown.cells (g:=g) rfl
   have hr':=run_append_grow_string (P:=P) w t u ty e i (.int .u8 0) ht hu hi hz ⟨g,0,none⟩ n cap xs (by rw [hsize];simpa using hxl) holds s (by omega) (by omega) (by rw [hby];exact growslice_fits (by omega) (by omega))
   have:=hr.symm.trans hr'
   injection this with h5 h6
   rw [h5];exact .inr rfl
theorem wpList_append_str_at {ops : Array Oper} {rest : List Oper} {o : Oper} {a : Act} {Q : Exit → Act → World → Prop} (hgd : o.guard = none) (sl x : Operand) (t u : TypeId)
  (ho : o.op = .call { callee:=.builtin .append,args:=#[sl,x],argTypes:=#[t,u] })
  (base : Nat) (e : TypeId) (i : TypeInfo) (ht : P.underlying t = some (.slice e)) (hu : P.underlying u = some .string) (hi : P.info? e = some i) (hz : i.zero = some (.int .u8 0)) (hsize : i.size = 1) (hby : i.bytes = 1)
  (v : Value) (n : Nat) (xs : List Value) (hs : a.eval sl = v) (hown : w.ownsRow base e 1 v n xs) (s : ByteArray) (hx : a.eval x = .string s) (h63 : n + s.size ≤ maxLen) (hbytes : n + s.size ≤ 140737488355328) (hbase : base ≤ w.heap.size)
  (h : ∀ v' w',w'.ownsRow base e 1 v' (n + s.size) (xs ++ strCells s) → w.grownBy w' v.ownBlock → (v'.ownBlock = v.ownBlock ∨ v'.ownBlock = some w.heap.size) → wpList P ops Q rest (a.put o.dst v') w') : wpList P ops Q (o :: rest) a w:=by
 refine wpList_plain hgd fun K hK => ?_
 obtain ⟨v',w',hr,h2,h3,h4⟩:=append_str_at (P:=P) w base t u o.type e i ht hu hi hz hsize hby v n xs hown s h63 hbytes hbase
 unfold Oper.wp execOp
 simp only [ho,resolve,invoke,builtin,Sem.run_bind,Sem.run_pure,Result.andThen_ok,List.map_toArray,List.map_cons,List.map_nil,hs,hx,hr]
 exact hK _ _ (h v' w' h2 h3 h4)
end
def Bld (B b : Nat) (v : Value) (bs : List Value) (w : World) : Prop:=B ≤ b ∧ ∃ p,(p = .pointer none ∨ p = .pointer (some ⟨b,0,none⟩)) ∧ w.heap[b]? = some (.cells #[p,v] 82 (0,0)) ∧ w.ownsRow B 5 1 v bs.length bs ∧ v.ownBlock ≠ some b
theorem Bld.is {B b : Nat} {v : Value} {bs : List Value} {w : World} (h : Bld B b v bs w) : IsBuilder 82 5 B b bs w:=by
 obtain ⟨hB,p,hp,hb,hr,hn⟩:=h
 rcases hp with rfl | rfl
 ·exact .inl ⟨hB,v,hb,hr,hn⟩
 ·exact .inr ⟨hB,v,hb,hr,hn⟩
def Beside (b : Nat) (v : Value) (w w' : World) : Prop:=∀ k,k < w.heap.size → k ≠ b → some k ≠ v.ownBlock → w'.heap[k]? = w.heap[k]?
theorem infoByte : (Tryz.prog.info? 5).map (fun i => (i.zero,i.size,i.bytes)) = some (some (.int .u8 0),1,1):=by kernel_rfl
set_option maxHeartbeats 2000000 in
set_option maxRecDepth 100000 in
theorem write_at (B b : Nat) (v : Value) (bs : List Value) (s : ByteArray) (w : World) (h : Bld B b v bs w) (hlen : bs.length + s.size ≤ 140737488355328) (hBw : B ≤ w.heap.size) :
  Calls Tryz.prog 48 #[.pointer (some ⟨b,0,none⟩),.string s] w fun e w' => e = .returned (.tuple #[.int .i64 s.size,.nilIface]) ∧ ∃ v',Bld B b v' (bs ++ strCells s) w' ∧ (v'.ownBlock = v.ownBlock ∨ ∃ g,v'.ownBlock = some g ∧ w.heap.size ≤ g) ∧ Below B w w' ∧ Beside b v w w':=by
 obtain ⟨hB,p,hp,hb,hrow,hne⟩:=h
 obtain ⟨i0,hi,hz0,hz1,hz2⟩:=info_parts infoByte
 have hck : Calls Tryz.prog 70 #[.pointer (some ⟨b,0,none⟩)] w fun e w1 => e = .returned (.tuple #[]) ∧ w1.heap[b]? = some (.cells #[.pointer (some ⟨b,0,none⟩),v] 82 (0,0)) ∧ w1.heap.size = w.heap.size ∧ Below B w w1 ∧ (∀ k,k ≠ b → w1.heap[k]? = w.heap[k]?):=by
  rcases hp with rfl | rfl
  ·refine (Any.Builder_copyCheck_fresh (P:=Tryz.prog) (ρ:=Tryz.lays105_ren) { Tryz.lays105 with } Tryz.Builder_Extra_105.toX72 b w (by simp [World.cell?,hb]) (by simp [World.shape?,hb];rfl) (by simp [World.frozen?,hb])).mono ?_
   rintro e w1 ⟨rfl,rfl⟩
   refine ⟨rfl,?_,by simp,(Below.refl B w).setCell (p:=⟨b,0,none⟩) hB _,fun k hk => Below.heap_setCell w ⟨b,0,none⟩ _ k hk⟩
   obtain ⟨hlt,hk⟩:=Array.getElem?_eq_some_iff.1 hb
   show (w.heap.modify b _)[b]? = _
   rw [Array.getElem?_eq_getElem (by rw [Array.size_modify];exact hlt),Array.getElem_modify_self,hk]
   rfl
  ·refine (Any.Builder_copyCheck_used (P:=Tryz.prog) (ρ:=Tryz.lays105_ren) { Tryz.lays105 with } Tryz.Builder_Extra_105.toX72 b w (by simp [World.cell?,hb])).mono ?_
   rintro e w1 ⟨rfl,rfl⟩
   exact ⟨rfl,hb,rfl,Below.refl B _,fun _ _ => rfl⟩
 clear hp
 go_enter Tryz.func48,Tryz.ntmps48
 go_wp2_with fail
 refine hck.mono ?_
 rintro e w1 ⟨rfl,hbk,hsz,hb1,hk1⟩
 have hown : w1.ownsRow B 5 1 v bs.length bs:=by
  refine ⟨hrow.1,?_⟩
  rcases hrow.2 with h0 | ⟨g,cap,cur,rfl,q1,q2,q3⟩
  ·exact .inl h0
  ·exact .inr ⟨g,cap,cur,rfl,q1,(hk1 g (fun e => hne (by rw [← e];rfl))).trans q2,q3⟩
 have c0 : w1.cell? ⟨b,0,none⟩ = some (.pointer (some ⟨b,0,none⟩)):=by rw [Lib.cell_of_heap hbk];rfl
 have c1 : w1.cell? ⟨b,1,none⟩ = some v:=by rw [Lib.cell_of_heap hbk];rfl
 go_wp2_with (at_builtin;refine wpList_append_str_at _ rfl _ _ 80 9 rfl B 5 i0 Tryz.underlying80 Tryz.underlying9 hi hz0 hz1 hz2 _ _ _ rfl hown s rfl ?c3 ?c4 ?c5 ?_)
 case c3 => unfold maxLen;omega
 case c4 => omega
 case c5 => omega
 intro v' w2 hown' hgrow hloc
 have hlt : b < w1.heap.size:=(Array.getElem?_eq_some_iff.1 hbk).1
 have hb2 : w2.heap[b]? = some (.cells #[.pointer (some ⟨b,0,none⟩),v] 82 (0,0)):=by
  rw [hgrow.block b hlt (fun e => hne e.symm)]
  exact hbk
 have d0 : w2.cell? ⟨b,0,none⟩ = some (.pointer (some ⟨b,0,none⟩)):=by rw [Lib.cell_of_heap hb2];rfl
 have d1 : w2.cell? ⟨b,1,none⟩ = some v:=by rw [Lib.cell_of_heap hb2];rfl
 have f1 : w2.frozen? ⟨b,1,none⟩ = false:=Lib.frozen_of_heap hb2 1
 obtain ⟨ao,n',cap,rfl⟩ : ∃ ao n' cap,v' = .slice ao n' cap:=by
  rcases hown'.2 with ⟨hv,_⟩ | ⟨g,cap,cur,hv,_⟩
  ·exact ⟨_,_,_,hv⟩
  ·exact ⟨_,_,_,hv⟩
 go_wp2
 go_ret2
 have hnb : (Value.slice ao n' cap).ownBlock ≠ some b:=by
  rcases hloc with e | e
  ·rw [e];exact hne
  ·rw [e];intro h;injection h with h;omega
 refine ⟨rfl,.slice ao n' cap,⟨hB,_,.inr rfl,?_,?_,hnb⟩,?_,?_,?_⟩
 ·simpa using heap_setCell (W:=w2) (g:=b) (i:=1) (u:=.slice ao n' cap) hb2
 ·have : (bs ++ strCells s).length = bs.length + s.size:=by rw [List.length_append,strCells_length]
  rw [this]
  exact row_kept (W:=w2) hown' fun k hk => heap_other fun e => hnb (by rw [hk,e])
 ·rcases hloc with e | e
  ·exact .inl e
  ·exact .inr ⟨_,e,by omega⟩
 ·exact (hb1.grown hgrow (by omega) (fun k hk => (hown.lt k hk).1)).setCell (p:=⟨b,1,none⟩) hB _
 ·intro k hk hkb hkv
  exact (heap_other hkb).trans ((hgrow.block k (by omega) (fun e => hkv e)).trans (hk1 k hkb))
end Go.Proofs.YtpffkpaiihcffaaGreatDoor
end
section
namespace Go.Proofs.YtpffkpaiihcffaaGreatDoor
open Go Go.Proofs Go.Proofs.YtpffkpaiihcffaaGreatDoor.VM Go.RowKit Go.WideMaps Go.ChangeMaps Go.Maps Go.WideShapes
theorem row23 : (23 : TypeId) < Tryz.prog.types.size:=of_decide_eq_true (by kernel_rfl)
theorem wide23 : (match Tryz.prog.underlying 23 with | some (.array _ _) | some (.struct _) => true | _ => false) = true:=by rw [Tryz.underlying23]
theorem kt23 : Tryz.prog.keyTypeAt 2 23 = true:=by kernel_rfl
set_option maxRecDepth 10000 in
theorem law23 : KeyLaw Tryz.prog 23:=deep_law_laid (m:=2) laidOutK (by omega) row23 kt23 wide23
theorem keyed23 : Keyed Tryz.prog 23:=Keyed.of_law law23
theorem cellsOf23 : Tryz.prog.cellsOf 23 = 2:=by kernel_rfl
theorem cellsOf3 : Tryz.prog.cellsOf 3 = 1:=by kernel_rfl
theorem keyType23 : Tryz.prog.keyType 23 = true:=by kernel_rfl
abbrev mvV (m : Mv) : Value:=.agg #[.int .i64 m.1,.int .i64 m.2]
def keyM (m : Mv) : Lit:=.string (keyBytes [.int .i64 m.1,.int .i64 m.2])
def RngM (m : Mv) : Prop:=(Lit.int .i64 m.1).wf = true ∧ (Lit.int .i64 m.2).wf = true
theorem rgt_rng {m : Mv} (h : rgtA m.1 m.2 = true) : RngM m:=by
 have:=Z.rgt_cases h
 unfold RngM
 simp only [Lit.wf,IntKind.min,IntKind.max,IntKind.bits,IntKind.signed]
 constructor <;> simp <;> omega
theorem lits_int3 (n : Int) (m : Nat) (hn : (Lit.int .i64 n).wf = true) : Program.keyLits Tryz.prog (m + 1) 3 [.int .i64 n] = some [.int .i64 n]:=by
 simp only [Program.keyLits,Tryz.underlying3,hn,and_self,if_true]
set_option maxRecDepth 20000 in
theorem lits_mv {m : Mv} (h : RngM m) (k : Nat) : Program.keyLits Tryz.prog (k + 1 + 1) 23 [.int .i64 m.1,.int .i64 m.2] = some [.int .i64 m.1,.int .i64 m.2]:=by
 unfold Program.keyLits
 simp only [Tryz.underlying23,cellsOf23,cellsOf3,List.length_cons,List.length_nil]
 rw [if_pos ⟨by trivial,by kernel_rfl⟩]
 simp only [List.mapM_cons,List.mapM_nil,List.drop_zero,List.drop_succ_cons,cellsOf3,List.take_succ_cons,List.take_zero,lits_int3 _ k h.1,lits_int3 _ k h.2]
 rfl
theorem keyOf_mv {m : Mv} (h : RngM m) : keyOf Tryz.prog 23 (mvV m) = some (keyM m):=by
 have hf : (mvV m).formed Tryz.prog 23 = true:=by simp [Value.formed,Tryz.underlying23,cellsOf23]
 simp only [keyOf,Tryz.underlying23,keyType23,hf,Bool.and_self,if_true]
 rw [size_types]
 exact congrArg (Option.map fun ls => Lit.string (keyBytes ls)) (lits_mv h 234)
theorem keyM_inj {c d : Mv} (hc : RngM c) (hd : RngM d) (h : keyM c = keyM d) : c = d:=by
 have:=keyed23.inj (keyOf_mv hc) (h ▸ keyOf_mv hd)
 simp only [mvV,Value.agg.injEq,Array.mk.injEq,List.cons.injEq,Value.int.injEq,true_and,and_true] at this
 exact Prod.ext this.1 this.2
theorem keyM_key (m : Mv) : WideAt.IsKeyLit (keyM m):=by simp [keyM,WideAt.IsKeyLit]
def trD (a b : List UInt8) : DataW Unit:=.agg [.lit (.string a),.lit (.string b)]
def trR (v : Value) : Option (DataW Unit × List MemPlace):=match v with
 | .agg a => (match a.toList with | [.string x,.string y] => some (trD x.data.toList y.data.toList,[]) | _ => none)
 | _ => none
theorem trR_mk (a b : List UInt8) : trR (.agg #[strV a,strV b]) = some (trD a b,[]):=rfl
theorem trR_inv {v : Value} {z : DataW Unit × List MemPlace} (h : trR v = some z) : ∃ a b,v = .agg #[strV a,strV b] ∧ z = (trD a b,[]):=by
 unfold trR at h
 split at h
 ·rename_i a
  split at h
  ·rename_i x y ha
   cases h
   refine ⟨x.data.toList,y.data.toList,?_,rfl⟩
   have : a = #[.string x,.string y]:=by rw [← Array.toList_inj];simpa using ha
   rw [this];rfl
  ·cases h
 ·cases h
theorem trD_inj {a b c d : List UInt8} (h : trD a b = trD c d) : a = c ∧ b = d:=by
 simpa [trD] using h
def entT (m : Mv) : Lit × DataW Unit:=(keyM m,trD (pulA m.1 m.2).1 (pulA m.1 m.2).2)
def TabIs (w : World) (b n : Nat) (L : List Mv) : Prop:=∃ es,w.ownsMap Tryz.prog 23 trR b n (.map es) ∧ es.Perm (L.map entT) ∧ ∀ c ∈ L,RngM c
theorem TabIs.made (w : World) : TabIs (w.alloc (.map #[] 0)) w.heap.size 0 []:=⟨[],World.ownsMap_made w _ _ _,List.Perm.nil,by simp⟩
theorem TabIs.kept {w w' : World} {b n : Nat} {L : List Mv} (h : TabIs w b n L) (hb : w'.heap[b]? = w.heap[b]?) : TabIs w' b n L:=by
 obtain ⟨es,⟨xs,clock,k1,k2⟩,h2⟩:=h
 exact ⟨es,⟨xs,clock,hb.trans k1,k2⟩,h2⟩
theorem TabIs.kept' {w w' : World} {b b' n : Nat} {L : List Mv} (h : TabIs w b n L) (hb : w'.heap[b']? = w.heap[b]?) (e : b' = b) : TabIs w' b' n L:=by subst e;exact h.kept hb
theorem TabIs.lt {w : World} {b n : Nat} {L : List Mv} (h : TabIs w b n L) : b < w.heap.size:=by
 obtain ⟨es,h1,_⟩:=h
 exact h1.lt
theorem tab_apart {es : List (Lit × DataW Unit)} {w : World} {b n : Nat} (h : w.ownsMap Tryz.prog 23 trR b n (.map es)) : es.Pairwise fun p q => p.1 ≠ q.1:=by
 obtain ⟨es',h1,h2,_⟩:=h.entries keyed23
 cases h1
 exact h2
theorem tab_has {L : List Mv} {es : List (Lit × DataW Unit)} (hp : es.Perm (L.map entT)) (hr : ∀ c ∈ L,RngM c) {m : Mv} (hm : RngM m) : has (.map es) (keyM m) = decide (m ∈ L):=by
 cases hh : has (DataW.map es) (keyM m) with
 | true =>
  obtain ⟨p,hpm,hk⟩:=List.any_eq_true.1 (show es.any (fun p => p.1.sameKey (keyM m)) = true from hh)
  obtain ⟨d,hd,rfl⟩:=List.mem_map.1 (hp.mem_iff.1 hpm)
  have:=keyM_inj (hr d hd) hm (WideAt.sameKey_eq hk)
  subst this
  exact (decide_eq_true hd).symm
 | false =>
  refine (decide_eq_false fun hd => ?_).symm
  have : has (DataW.map es) (keyM m) = true:=List.any_eq_true.2 ⟨entT m,hp.mem_iff.2 (List.mem_map.2 ⟨m,hd,rfl⟩),WideAt.sameKey_self (keyM_key m)⟩
  rw [hh] at this;cases this
def gotA (L : List Mv) (m : Mv) : List UInt8 × List UInt8:=if m ∈ L then pulA m.1 m.2 else ([],[])
theorem tab_run {w : World} {b n : Nat} {L : List Mv} (hs : TabIs w b n L) {x y : Int} (hm : RngM (x,y)) : (Instr.lookup 78 (.map (some b)) (.agg #[.int .i64 x,.int .i64 y]) true).run Tryz.prog w = .ok (.tuple #[.agg #[strV (gotA L (x,y)).1,strV (gotA L (x,y)).2],.bool (decide ((x,y) ∈ L))]) w:=by
 obtain ⟨es,ho,hp,hr⟩:=hs
 obtain ⟨v,ps,hrun,hv⟩:=ho.look_ok keyed23 Tryz.underlying78 (Tryz.zeroValue39 w) (trR_mk [] []) (keyOf_mv hm)
 rw [show (Value.agg #[.int .i64 x,.int .i64 y]) = mvV (x,y) from rfl,hrun,tab_has hp hr hm]
 obtain ⟨a,b,rfl,hz⟩:=trR_inv hv
 have hz1:=congrArg Prod.fst hz
 simp only at hz1
 by_cases hd : (x,y) ∈ L
 ·rw [WideAt.atKey_mem _ (keyM_key _) (tab_apart ho) (hp.mem_iff.2 (List.mem_map.2 ⟨_,hd,rfl⟩))] at hz1
  obtain ⟨rfl,rfl⟩:=trD_inj hz1
  simp only [gotA,if_pos hd]
 ·rw [atKey_of_not_has (by rw [tab_has hp hr hm];exact decide_eq_false hd) _] at hz1
  obtain ⟨rfl,rfl⟩:=trD_inj hz1
  simp only [gotA,if_neg hd]
theorem tab_put {L : List Mv} {es : List (Lit × DataW Unit)} (hp : es.Perm (L.map entT)) (hr : ∀ c ∈ L,RngM c) {m : Mv} (hm : RngM m) (hn : m ∉ L) : (putKey (keyM m) (trD (pulA m.1 m.2).1 (pulA m.1 m.2).2) es).Perm ((m :: L).map entT):=by
 have hf : es.filter (notKey (keyM m)) = es:=by
  refine List.filter_eq_self.2 fun p hpm => ?_
  obtain ⟨d,hd,rfl⟩:=List.mem_map.1 (hp.mem_iff.1 hpm)
  unfold notKey entT
  cases hk : (keyM d).sameKey (keyM m) with
  | false => rfl
  | true => exact absurd (keyM_inj (hr d hd) hm (WideAt.sameKey_eq hk) ▸ hd) hn
 unfold putKey
 rw [hf]
 exact (insert_perm _ _).trans (hp.cons _)
structure Two (B : Nat) (va vb : Value) (x y : List UInt8) (w : World) : Prop where
 a : Bld B B va (Lib.byteCells x) w
 b : Bld B (B + 1) vb (Lib.byteCells y) w
 ab : va.ownBlock ≠ some (B + 1)
 ba : vb.ownBlock ≠ some B
 sep : ∀ k,va.ownBlock = some k → vb.ownBlock ≠ some k
theorem Bld.lt {B b : Nat} {v : Value} {bs : List Value} {w : World} (h : Bld B b v bs w) {k : Nat} (hk : v.ownBlock = some k) : B ≤ k ∧ k < w.heap.size:=by
 obtain ⟨_,p,_,_,hr,_⟩:=h
 rcases hr.2 with ⟨rfl,_⟩ | ⟨g,cap,cur,rfl,h1,h2,h3⟩
 ·simp [Value.ownBlock] at hk
 ·simp only [Value.ownBlock,Option.some.injEq] at hk
  subst hk
  exact ⟨h1,(Array.getElem?_eq_some_iff.1 h2).1⟩
theorem Bld.lt' {B b : Nat} {v : Value} {bs : List Value} {w : World} (h : Bld B b v bs w) : b < w.heap.size:=by
 obtain ⟨_,p,_,h2,_⟩:=h
 exact (Array.getElem?_eq_some_iff.1 h2).1
theorem Bld.kept {B b : Nat} {v : Value} {bs : List Value} {w w' : World} (h : Bld B b v bs w) (hb : w'.heap[b]? = w.heap[b]?) (hv : ∀ k,v.ownBlock = some k → w'.heap[k]? = w.heap[k]?) : Bld B b v bs w':=by
 obtain ⟨h1,p,h2,h3,h4,h5⟩:=h
 refine ⟨h1,p,h2,hb.trans h3,⟨h4.1,?_⟩,h5⟩
 rcases h4.2 with h0 | ⟨g,cap,cur,rfl,k1,k2,k3⟩
 ·exact .inl h0
 ·exact .inr ⟨g,cap,cur,rfl,k1,(hv g rfl).trans k2,k3⟩
theorem Two.kept {B : Nat} {va vb : Value} {x y : List UInt8} {w w' : World} (h : Two B va vb x y w) (hk : ∀ k,k < w.heap.size → k = B ∨ k = B + 1 ∨ va.ownBlock = some k ∨ vb.ownBlock = some k → w'.heap[k]? = w.heap[k]?) : Two B va vb x y w' :=
 ⟨h.a.kept (hk _ h.a.lt' (.inl rfl)) fun k e => hk k (h.a.lt e).2 (.inr (.inr (.inl e))),h.b.kept (hk _ h.b.lt' (.inr (.inl rfl))) fun k e => hk k (h.b.lt e).2 (.inr (.inr (.inr e))),h.ab,h.ba,h.sep⟩
theorem Two.grown {B : Nat} {va vb : Value} {x y : List UInt8} {w w' : World} (h : Two B va vb x y w) (hb : Below w.heap.size w w') : Two B va vb x y w':=h.kept fun k hk _ => hb.block k hk
theorem Two.outA {B : Nat} {va vb v' : Value} {x y s : List UInt8} {w w' : World} (h : Two B va vb x y w) (hn : Bld B B v' (Lib.byteCells x ++ Lib.byteCells s) w') (hl : v'.ownBlock = va.ownBlock ∨ ∃ g,v'.ownBlock = some g ∧ w.heap.size ≤ g) (hb : Beside B va w w') : Two B v' vb (x ++ s) y w':=by
 refine ⟨by rw [Lib.byteCells_append];exact hn,h.b.kept (hb _ h.b.lt' (by omega) (fun e => h.ab e.symm)) fun k e => hb k (h.b.lt e).2 (fun e2 => h.ba (e2 ▸ e)) fun e2 => h.sep k e2.symm e,?_,h.ba,?_⟩
 ·rcases hl with e | ⟨g,e,hg⟩
  ·rw [e];exact h.ab
  ·rw [e];intro h2;injection h2 with h2;have:=h.b.lt';omega
 ·rcases hl with e | ⟨g,e,hg⟩
  ·rw [e];exact h.sep
  ·intro k hk hv
   rw [e] at hk
   injection hk with hk
   have:=(h.b.lt hv).2
   omega
theorem Two.outB {B : Nat} {va vb v' : Value} {x y s : List UInt8} {w w' : World} (h : Two B va vb x y w) (hn : Bld B (B + 1) v' (Lib.byteCells y ++ Lib.byteCells s) w') (hl : v'.ownBlock = vb.ownBlock ∨ ∃ g,v'.ownBlock = some g ∧ w.heap.size ≤ g) (hb : Beside (B + 1) vb w w') : Two B va v' x (y ++ s) w':=by
 refine ⟨h.a.kept (hb _ h.a.lt' (by omega) (fun e => h.ba e.symm)) fun k e => hb k (h.a.lt e).2 (fun e2 => h.ab (e2 ▸ e)) fun e2 => h.sep k e e2.symm,by rw [Lib.byteCells_append];exact hn,h.ab,?_,?_⟩
 ·rcases hl with e | ⟨g,e,hg⟩
  ·rw [e];exact h.ba
  ·rw [e];intro h2;injection h2 with h2;have:=h.a.lt';omega
 ·rcases hl with e | ⟨g,e,hg⟩
  ·rw [e];exact h.sep
  ·intro k hk hv
   rw [e] at hv
   injection hv with hv
   have:=(h.a.lt hk).2
   omega
theorem writeA {B : Nat} {va vb : Value} {x y : List UInt8} {w : World} (h : Two B va vb x y w) (s : List UInt8) (hlen : x.length + s.length ≤ 140737488355328) (hBw : B ≤ w.heap.size) :
  Calls Tryz.prog 48 #[.pointer (some ⟨B,0,none⟩),strV s] w fun e w' => (∃ z,e = .returned z) ∧ ∃ v',Two B v' vb (x ++ s) y w' ∧ Below B w w' ∧ ∀ k,k < w.heap.size → k ≠ B → va.ownBlock ≠ some k → w'.heap[k]? = w.heap[k]?:=by
 refine (write_at B B va _ ⟨s.toArray⟩ w h.a (by rw [Lib.byteCells_length];exact hlen) hBw).mono ?_
 rintro e w' ⟨he,v',hn,hl,hb,hk⟩
 exact ⟨⟨_,he⟩,v',h.outA hn hl hk,hb,fun k h1 h2 h3 => hk k h1 h2 fun e => h3 e.symm⟩
theorem writeB {B : Nat} {va vb : Value} {x y : List UInt8} {w : World} (h : Two B va vb x y w) (s : List UInt8) (hlen : y.length + s.length ≤ 140737488355328) (hBw : B ≤ w.heap.size) :
  Calls Tryz.prog 48 #[.pointer (some ⟨B + 1,0,none⟩),strV s] w fun e w' => (∃ z,e = .returned z) ∧ ∃ v',Two B va v' x (y ++ s) w' ∧ Below B w w':=by
 refine (write_at B (B + 1) vb _ ⟨s.toArray⟩ w h.b (by rw [Lib.byteCells_length];exact hlen) hBw).mono ?_
 rintro e w' ⟨he,v',hn,hl,hb,hk⟩
 exact ⟨⟨_,he⟩,v',h.outB hn hl hk,hb⟩
theorem lenA {B : Nat} {va vb : Value} {x y : List UInt8} {w : World} (h : Two B va vb x y w) : Calls Tryz.prog 47 #[.pointer (some ⟨B,0,none⟩)] w fun e w' => e = .returned (.int .i64 x.length) ∧ w' = w:=by
 have:=Tryz.Builder_Len B B _ w h.a.is
 rwa [Lib.byteCells_length] at this
end Go.Proofs.YtpffkpaiihcffaaGreatDoor
end
section
namespace Go.Proofs.YtpffkpaiihcffaaGreatDoor
open Go Go.Proofs Go.RowKit Go.Lib
theorem pointee117 : Tryz.prog.underlying 117 = some (.pointer 5):=Tryz.underlying117
theorem frz_other {w : World} {p : Addr} {n k : Nat} (h : k ≠ p.block) : (w.freeze p n).heap[k]? = w.heap[k]?:=by
 unfold World.freeze
 split
 ·rfl
 ·show (w.heap.modify p.block _)[k]? = _
  rw [Array.getElem?_modify,if_neg (fun e => h e.symm)]
set_option maxHeartbeats 2000000 in
set_option maxRecDepth 100000 in
theorem text_at {B b g cap : Nat} {p : Value} {l : List UInt8} {w : World} (h0 : l ≠ []) (hbk : w.heap[b]? = some (.cells #[p,.slice (some ⟨g,0,none⟩) l.length cap] 82 (0,0))) (hown : w.ownsRow B 5 1 (.slice (some ⟨g,0,none⟩) l.length cap) l.length (Lib.byteCells l)) :
  Calls Tryz.prog 49 #[.pointer (some ⟨b,0,none⟩)] w fun e w' => e = .returned (strV l) ∧ w' = w.drew.freeze ⟨g,0,none⟩ l.length:=by
 have hl : l.length ≠ 0:=by simpa using h0
 obtain ⟨cur,hbg,hg,hnc,hcm,hcs,htake⟩ : ∃ cur,B ≤ g ∧ w.heap[g]? = some (.cells cur 5 (0,0)) ∧ l.length ≤ cap ∧ cap ≤ maxLen ∧ cur.size = cap * 1 ∧ cur.toList.take (l.length * 1) = Lib.byteCells l:=by
  rcases hown.2 with ⟨_,hz⟩ | ⟨g',cap',cur,hv,r⟩
  ·exact absurd hz hl
  ·cases hv;exact ⟨cur,r⟩
 go_enter Tryz.func49,Tryz.ntmps49
 go_wp2_with fail
 refine wp_region_still_tail 10 (by kernel_rfl) (by kernel_rfl) ?_
 simp only [List.take_succ_cons,List.take_zero,List.drop_succ_cons,List.drop_zero]
 have c1 : w.drew.cell? ⟨b,1,none⟩ = some (.slice (some ⟨g,0,none⟩) l.length cap):=by
  have : w.drew.heap[b]? = some (.cells #[p,.slice (some ⟨g,0,none⟩) l.length cap] 82 (0,0)):=hbk
  rw [Lib.cell_of_heap this];rfl
 have hSD : (Builtin.unsafeSliceData_ #[80] 117 #[.slice (some ⟨g,0,none⟩) l.length cap]).run Tryz.prog w.drew = .ok (.pointer (some ⟨g,0,none⟩)) w.drew :=
  Lib.run_unsafeSliceData_row _ _ _ _ _ _ (by omega)
 have hUS : (Builtin.unsafeString_ #[117,3] 9 #[.pointer (some ⟨g,0,none⟩),.int .i64 l.length]).run Tryz.prog w.drew = .ok (.string ⟨l.toArray⟩) (w.drew.freeze ⟨g,0,none⟩ l.length):=by
  refine Lib.run_unsafeString_row w.drew 117 3 9 5 pointee117 (by kernel_rfl) g cur.size (by have hg' : w.drew.heap[g]? = some (.cells cur 5 (0,0)):=hg;simp [World.shape?,hg']) l h0 (by omega) (by unfold maxLen at hcm;omega) ?_
  intro j x hx
  have:=hown.cells (g:=g) rfl j (.int .u8 x.toNat) (by simp [Lib.byteCells,hx])
  exact this
 change wpStill _ _ w.drew (fun a' => wpList _ _ _ _ _ w.drew) _ _
 generalize hW : w.drew = W at c1 hSD hUS ⊢
 have HW:=Lib.hid hW
 clear hW
 repeat still_step
 refine wpStill_nil ?_
 go_wp2
 go_ret
 exact ⟨rfl,by rw [HW.out]⟩
theorem text_nil {b : Nat} {p : Value} {w : World} (hbk : w.heap[b]? = some (.cells #[p,.slice none 0 0] 82 (0,0))) :
  Calls Tryz.prog 49 #[.pointer (some ⟨b,0,none⟩)] w fun e w' => e = .returned (strV []) ∧ Below w.heap.size w w':=Any.Builder_String_nil Tryz.lays169 Tryz.Builder_Extra_169 w.heap.size b p w hbk
theorem two_text {B : Nat} {va vb : Value} {x y : List UInt8} {w : World} (h : Two B va vb x y w) (hx : x = [] → va = .slice none 0 0) (hBw : B ≤ w.heap.size) :
  Calls Tryz.prog 49 #[.pointer (some ⟨B,0,none⟩)] w fun e w' => e = .returned (.string ⟨x.toArray⟩) ∧ Below B w w' ∧ Bld B (B + 1) vb (Lib.byteCells y) w':=by
 obtain ⟨hB,p,hp,hb,hr,hne⟩:=h.a
 by_cases h0 : x = []
 ·subst h0
  have hv:=hx rfl
  subst hv
  refine (text_nil hb).mono ?_
  rintro e w' ⟨rfl,hbl⟩
  exact ⟨rfl,hbl.mono hBw,(h.grown hbl).b⟩
 ·rw [Lib.byteCells_length] at hr
  obtain ⟨g,cap,cur,rfl,hbg,hg,_⟩ : ∃ g cap cur,va = .slice (some ⟨g,0,none⟩) x.length cap ∧ B ≤ g ∧ w.heap[g]? = some (.cells cur 5 (0,0)) ∧ True:=by
   rcases hr.2 with ⟨_,hz⟩ | ⟨g,cap,cur,hv,r⟩
   ·exact absurd (by simpa using hz) h0
   ·exact ⟨g,cap,cur,hv,r.1,r.2.1,trivial⟩
  refine (text_at h0 hb hr).mono ?_
  rintro e w' ⟨rfl,rfl⟩
  refine ⟨rfl,Lib.below_freeze (Below.drew (Below.refl B w)) (p:=⟨g,0,none⟩) hbg _,h.b.kept ?_ fun k hk => ?_⟩
  ·exact frz_other (w:=w.drew) (fun e => h.ab (by rw [e];rfl))
  ·exact frz_other (w:=w.drew) (fun e => h.sep g rfl (by rw [hk];exact congrArg some e))
theorem one_text {B b : Nat} {v : Value} {y : List UInt8} {w : World} (h : Bld B b v (Lib.byteCells y) w) (hy : y = [] → v = .slice none 0 0) (hBw : B ≤ w.heap.size) :
  Calls Tryz.prog 49 #[.pointer (some ⟨b,0,none⟩)] w fun e w' => e = .returned (.string ⟨y.toArray⟩) ∧ Below B w w':=Tryz.Builder_String_any B b y w h.is hBw
end Go.Proofs.YtpffkpaiihcffaaGreatDoor
end
section
namespace Go.Proofs.YtpffkpaiihcffaaGreatDoor
open Go Go.Proofs Go.Proofs.YtpffkpaiihcffaaGreatDoor.VM Go.RowKit Go.Shelf Go.Maps Go.Lib Go.ChangeMaps
def trainV (a b : List UInt8) (e : Int) : Value:=.tuple #[.agg #[strV a,strV b],.int .i64 e]
def trainR (ms : List Mv) : List UInt8 × List UInt8 × Int:=match ms.all fun m => rgtA m.1 m.2 with
 | false => ([],[],80)
 | true => match foldT ms [] [] with
  | none => ([],[],83)
  | some p => (p.1,p.2,0)
theorem trainR_form {ms : List Mv} (h : (ms.all fun m => rgtA m.1 m.2) = false) : trainR ms = ([],[],80):=by unfold trainR;rw [h]
theorem trainR_long {ms : List Mv} (h : (ms.all fun m => rgtA m.1 m.2) = true) (k : foldT ms [] [] = none) : trainR ms = ([],[],83):=by unfold trainR;rw [h,k]
theorem trainR_good {ms : List Mv} {a b : List UInt8} (h : (ms.all fun m => rgtA m.1 m.2) = true) (k : foldT ms [] [] = some (a,b)) : trainR ms = (a,b,0):=by unfold trainR;rw [h,k]
theorem fold_go {m : Mv} {l : List Mv} {A B : List UInt8} (h : A.length + (pulA m.1 m.2).1.length ≤ 262144) : foldT (m :: l) A B = foldT l (A ++ (pulA m.1 m.2).1) (B ++ (pulA m.1 m.2).2):=by
 simp only [foldT,decide_eq_true h]
theorem fold_stop {m : Mv} {l : List Mv} {A B : List UInt8} (h : ¬ A.length + (pulA m.1 m.2).1.length ≤ 262144) : foldT (m :: l) A B = none:=by
 simp only [foldT,decide_eq_false h]
theorem pul_ne {k s : Int} (h : rgtA k s = true) : (pulA k s).1 ≠ [] ∧ (pulA k s).2 ≠ []:=by
 have hl:=(pul_len k s).2
 have h1 : (pulA k s).1 ≠ []:=by
  have hc:=Z.rgt_cases h
  clear h hl
  rcases hc with ⟨rfl,h⟩ | ⟨h,h2⟩
  ·rcases h with rfl | rfl | rfl | rfl | rfl | rfl <;> decide
  ·rcases h with rfl | rfl <;> (rcases h2 with rfl | rfl | rfl | rfl | rfl | rfl | rfl | rfl | rfl <;> decide)
 refine ⟨h1,fun e => h1 ?_⟩
 rw [e] at hl
 exact List.length_eq_zero_iff.1 hl.symm
theorem box2_set {W : World} {g : Nat} {x y u v : Value} {t : Nat} (h : W.heap[g]? = some (.cells #[x,y] t (0,0))) : ((W.setCell ⟨g,0,none⟩ u).setCell ⟨g,1,none⟩ v).heap[g]? = some (.cells #[u,v] t (0,0)):=by
 have:=heap_setCell (u:=v) (i:=1) (heap_setCell (u:=u) (i:=0) h)
 simpa using this
theorem cells2 {W : World} {g : Nat} {x y : Value} {t : Nat} (h : W.heap[g]? = some (.cells #[x,y] t (0,0))) : W.cell? ⟨g,0,none⟩ = some x ∧ W.cell? ⟨g,1,none⟩ = some y ∧ W.frozen? ⟨g,0,none⟩ = false ∧ W.frozen? ⟨g,1,none⟩ = false :=
 ⟨by rw [Lib.cell_of_heap h];rfl,by rw [Lib.cell_of_heap h];rfl,Lib.frozen_of_heap h 0,Lib.frozen_of_heap h 1⟩
def TrainPost (ms : List Mv) (w : World) (e : Ending) (w' : World) : Prop:=e = .returned (trainV (trainR ms).1 (trainR ms).2.1 (trainR ms).2.2) ∧ Go.RowKit.Below w.heap.size w w'
set_option maxHeartbeats 4000000 in
set_option maxRecDepth 100000 in
theorem train_walk {A : Nat → Prop} (w : World) (hA : ∀ b,A b → b < w.heap.size) (gl : GlobR w A) {lv : Value} {ms : List Mv} (hl : MovesR w A lv ms) (hm : ms.length ≤ 100000) :
  Calls Tryz.prog 23 #[lv] w (TrainPost ms w):=by
 have hmk:=@run_makeMap Tryz.prog
 have ext : ∀ {W : World},Go.RowKit.Below w.heap.size w W → (∀ b,A b → b < W.heap.size) ∧ GlobR W A:=fun {W} h => ⟨fun b hb => Nat.lt_of_lt_of_le (hA b hb) h.size,gl.mono ⟨fun _ h => h,fun b hb => h.block b (hA b hb)⟩⟩
 obtain ⟨pl,capl,rfl,hmoves⟩:=hl
 have HMOVES:=Lib.hid hmoves
 clear hmoves
 go_enter Tryz.func23,Tryz.ntmps23
 go_wp2_with fail
 obtain ⟨W0,hW0⟩ : ∃ W0,W0 = w.alloc (.cells #[.string ⟨#[]⟩,.string ⟨#[]⟩] 39):=⟨_,rfl⟩
 have hb0 : Go.RowKit.Below w.heap.size w W0:=by rw [hW0];exact (Go.RowKit.Below.refl _ w).alloc (Nat.le_refl _) _
 have hr0 : W0.heap[w.heap.size]? = some (.cells #[.string ⟨#[]⟩,.string ⟨#[]⟩] 39 (0,0)):=by rw [hW0];exact heap_new _ _
 have hs0 : w.heap.size < W0.heap.size:=by rw [hW0];simp
 rw [← hW0]
 have HW0:=Lib.hid hW0
 clear hW0
 go_loopw [15,3] (fun iv s3 wr => ∃ k : Nat,iv = .int .i64 k ∧ s3 = .int .i64 0 ∧ k ≤ ms.length ∧ (ms.all fun m => rgtA m.1 m.2) = ((ms.drop k).all fun m => rgtA m.1 m.2) ∧ wr.heap[w.heap.size]? = some (.cells #[.string ⟨#[]⟩,.string ⟨#[]⟩] 39 (0,0)) ∧ w.heap.size < wr.heap.size ∧ Go.RowKit.Below w.heap.size w wr) (fun iv _ _ => ms.length - (intOf iv).toNat)
 case atStart => exact ⟨0,rfl,rfl,Nat.zero_le _,rfl,hr0,hs0,hb0⟩
 case round =>
  clear hr0 hs0 hb0
  obtain ⟨k,rfl,rfl,hk,hq,hrr,hsr,hbr⟩:=hrel
  by_cases hlt : k < ms.length
  ·obtain ⟨c1,c2,hc⟩ : ∃ c1 c2 : Int,ms[k]? = some (c1,c2):=⟨_,_,List.getElem?_eq_getElem hlt⟩
   obtain ⟨b,o,rfl,hAb,f0,f1⟩:=HMOVES.out k _ hc
   have hbl:=hA b hAb
   have e0 : wr.cell? ⟨b,o + k * 2,none⟩ = some (.int .i64 c1):=(hbr.cell (p:=⟨b,o + k * 2,none⟩) hbl).trans f0
   have e1 : wr.cell? ⟨b,o + k * 2 + 1,none⟩ = some (.int .i64 c2):=(hbr.cell (p:=⟨b,o + k * 2 + 1,none⟩) hbl).trans f1
   have hal:=(Go.RowKit.Below.refl wr.heap.size wr).alloc (Nat.le_refl _) (.cells #[.int .i64 c1,.int .i64 c2] 23)
   have hbox : Go.RowKit.Below w.heap.size w (wr.alloc (.cells #[.int .i64 c1,.int .i64 c2] 23)):=hbr.trans (hal.mono hbr.size)
   have hrx:=(hal.block _ hsr).trans hrr
   have hsx : w.heap.size < (wr.alloc (.cells #[.int .i64 c1,.int .i64 c2] 23)).heap.size:=Nat.lt_of_lt_of_le hsr hal.size
   have hfm:=formed_calls (ext hbox).1 (ext hbox).2 c1 c2
   have hdrop : ms.drop k = (c1,c2) :: ms.drop (k + 1):=by
    rw [List.drop_eq_getElem_cons hlt]
    congr 1
    rw [List.getElem?_eq_getElem hlt] at hc
    exact Option.some.inj hc
   have HQ:=Lib.hid hq
   have HD:=Lib.hid hdrop
   have HRX:=Lib.hid hrx
   clear f0 f1 hc hdrop hq hal hrr hsr hbr hrx
   cases hg : rgtA c1 c2 with
   | false =>
    rw [hg] at hfm
    have HR:=Lib.hid (trainR_form (ms:=ms) (by rw [HQ.out,HD.out];simp [hg]))
    clear hg
    go_wp2_with fail
    refine hfm.mono ?_
    rintro e W3 ⟨rfl,hb3⟩
    have hr3:=(hb3.block _ hsx).trans HRX.out
    obtain ⟨c0,c1',d0,d1⟩:=cells2 hr3
    go_wp2_with fail
    have hf:=box2_set (u:=.string ⟨#[]⟩) (v:=.string ⟨#[]⟩) hr3
    have hbf:=((hbox.trans (hb3.mono hbox.size)).setCell (p:=⟨w.heap.size,0,none⟩) (Nat.le_refl _) (.string ⟨#[]⟩)).setCell (p:=⟨w.heap.size,1,none⟩) (Nat.le_refl _) (.string ⟨#[]⟩)
    generalize ((W3.setCell ⟨w.heap.size,0,none⟩ (.string ⟨#[]⟩)).setCell ⟨w.heap.size,1,none⟩ (.string ⟨#[]⟩)) = Wf at hf hbf ⊢
    obtain ⟨c0',c1'',_,_⟩:=cells2 hf
    refine bodyPost_ret (v:=.tuple #[.agg #[.string ⟨#[]⟩,.string ⟨#[]⟩],.int .i64 80]) (by rw [results_cell_tmp Tryz.results23];go_simp) rfl ?_
    exact ⟨by rw [HR.out];rfl,hbf⟩
   | true =>
    rw [hg] at hfm
    have HG:=Lib.hid hg
    clear hg
    go_wp2_with fail
    refine hfm.mono ?_
    rintro e W3 ⟨rfl,hb3⟩
    go_wp2_with fail
    refine ⟨⟨k + 1,by go_num,rfl,by omega,?_,(hb3.block _ hsx).trans HRX.out,Nat.lt_of_lt_of_le hsx hb3.size,hbox.trans (hb3.mono hbox.size)⟩,by simp [intOf];omega⟩
    rw [HQ.out,HD.out]
    simp [HG.out]
  ·have hkl : k = ms.length:=by omega
   subst hkl
   rw [List.drop_length] at hq
   have HQ:=Lib.hid (show (ms.all fun m => rgtA m.1 m.2) = true by rw [hq];rfl)
   clear hq
   go_wp2_with fail
   obtain ⟨N,hN⟩ : ∃ N,N = wr.heap.size:=⟨_,rfl⟩
   obtain ⟨Wm,hWm⟩ : ∃ Wm,Wm = ((wr.alloc (.map #[] 0)).alloc (.cells #[.pointer none,.slice none 0 0] 82)).alloc (.cells #[.pointer none,.slice none 0 0] 82):=⟨_,rfl⟩
   have hsm : Wm.heap.size = N + 3:=by rw [hWm,hN];simp
   have hold : ∀ k,k < wr.heap.size → Wm.heap[k]? = wr.heap[k]?:=fun k hk => by
    rw [hWm,Lib.alloc_old _ _ _ (by simp;omega),Lib.alloc_old _ _ _ (by simp;omega),Lib.alloc_old _ _ _ hk]
   have hn0 : Wm.heap[N]? = some (.map #[] 0):=by
    rw [hWm,hN,Lib.alloc_old _ _ _ (by simp;omega),Lib.alloc_old _ _ _ (by simp)];exact heap_new _ _
   have hn1 : Wm.heap[N + 1]? = some (.cells #[.pointer none,.slice none 0 0] 82 (0,0)):=by
    rw [hWm,hN,Lib.alloc_old _ _ _ (by simp)]
    have:=heap_new (wr.alloc (.map #[] 0)) (.cells #[.pointer none,.slice none 0 0] 82)
    simpa using this
   have hn2 : Wm.heap[N + 1 + 1]? = some (.cells #[.pointer none,.slice none 0 0] 82 (0,0)):=by
    rw [hWm,hN]
    have:=heap_new ((wr.alloc (.map #[] 0)).alloc (.cells #[.pointer none,.slice none 0 0] 82)) (.cells #[.pointer none,.slice none 0 0] 82)
    simpa using this
   have hbm : Go.RowKit.Below w.heap.size w Wm:=by
    rw [hWm]
    exact (((hbr.alloc hbr.size _).alloc (by simp;omega) _).alloc (by simp;omega) _)
   have hrm:=(hold _ hsr).trans hrr
   have htm : TabIs Wm N 0 []:=(TabIs.made wr).kept' (by rw [hn0];exact (heap_new _ _).symm) hN
   have h2m : Two (N + 1) (.slice none 0 0) (.slice none 0 0) [] [] Wm :=
    ⟨⟨Nat.le_refl _,_,.inl rfl,hn1,World.ownsRow_nil _ _ _ _,by simp [Value.ownBlock]⟩,⟨by omega,_,.inl rfl,hn2,World.ownsRow_nil _ _ _ _,by simp [Value.ownBlock]⟩,by simp [Value.ownBlock],by simp [Value.ownBlock],by simp [Value.ownBlock]⟩
   have hNw : w.heap.size < N:=by rw [hN];exact hsr
   rw [← hWm,← hN]
   clear hold hn0 hn1 hn2 hWm hN hrr hsr hbr
   go_loopw [27,3] (fun iv s3 wx => ∃ (k n : Nat) (va vb : Value) (L : List Mv) (x y : List UInt8),iv = .int .i64 k ∧ s3 = .int .i64 0 ∧ k ≤ ms.length ∧ foldT ms [] [] = foldT (ms.drop k) x y ∧ x.length ≤ 262144 ∧ y.length = x.length ∧ (x = [] → va = .slice none 0 0) ∧ (y = [] → vb = .slice none 0 0) ∧ TabIs wx N n L ∧ n ≤ k ∧ Two (N + 1) va vb x y wx ∧ wx.heap[w.heap.size]? = some (.cells #[.string ⟨#[]⟩,.string ⟨#[]⟩] 39 (0,0)) ∧ N + 3 ≤ wx.heap.size ∧ Go.RowKit.Below w.heap.size w wx) (fun iv _ _ => ms.length - (intOf iv).toNat)
   case atStart => exact ⟨0,0,_,_,[],[],[],rfl,rfl,Nat.zero_le _,rfl,by simp,rfl,fun _ => rfl,fun _ => rfl,htm,Nat.le_refl _,h2m,hrm,by omega,hbm⟩
   case round =>
    clear htm h2m hrm hbm hsm
    obtain ⟨k,n,va,vb,L,x,y,rfl,rfl,hk,hfo,hxl,hyl,hva,hvb,htx,hnk,h2x,hrx,hsx,hbx⟩:=hrel
    by_cases hlt : k < ms.length
    ·obtain ⟨c1,c2,hc⟩ : ∃ c1 c2 : Int,ms[k]? = some (c1,c2):=⟨_,_,List.getElem?_eq_getElem hlt⟩
     obtain ⟨b,o,rfl,hAb,f0,f1⟩:=HMOVES.out k _ hc
     have hbl:=hA b hAb
     have e0 : wr.cell? ⟨b,o + k * 2,none⟩ = some (.int .i64 c1):=(hbx.cell (p:=⟨b,o + k * 2,none⟩) hbl).trans f0
     have e1 : wr.cell? ⟨b,o + k * 2 + 1,none⟩ = some (.int .i64 c2):=(hbx.cell (p:=⟨b,o + k * 2 + 1,none⟩) hbl).trans f1
     have hg : rgtA c1 c2 = true:=List.all_eq_true.1 HQ.out _ (List.mem_of_getElem? hc)
     have hdrop : ms.drop k = (c1,c2) :: ms.drop (k + 1):=by
      rw [List.drop_eq_getElem_cons hlt]
      congr 1
      rw [List.getElem?_eq_getElem hlt] at hc
      exact Option.some.inj hc
     rw [hdrop] at hfo
     obtain ⟨p1,hp1⟩ : ∃ q,q = (pulA c1 c2).1:=⟨_,rfl⟩
     obtain ⟨p2,hp2⟩ : ∃ q,q = (pulA c1 c2).2:=⟨_,rfl⟩
     have hpl : pulV c1 c2 = .tuple #[.agg #[.string ⟨p1.toArray⟩,.string ⟨p2.toArray⟩],.int .i64 0]:=by unfold pulV;rw [hg,hp1,hp2];rfl
     have hpn:=pul_ne hg
     have hpb:=pul_len c1 c2
     rw [← hp1,← hp2] at hpn
     have hpl1 : p1.length ≤ 128:=by rw [hp1];exact hpb.1
     have hpl2 : p2.length = p1.length:=by rw [hp1,hp2];exact hpb.2
     have hrng:=rgt_rng (m:=(c1,c2)) hg
     have hkey:=keyOf_mv hrng
     have hal:=(Go.RowKit.Below.refl wr.heap.size wr).alloc (Nat.le_refl _) (.cells #[.int .i64 c1,.int .i64 c2] 23)
     have hs1 : (wr.alloc (.cells #[.int .i64 c1,.int .i64 c2] 23)).heap.size = wr.heap.size + 1:=by simp
     have hlk:=tab_run (htx.kept (hal.block _ (by omega))) hrng
     have HFO:=Lib.hid hfo
     have HC:=Lib.hid hc
     have HP1:=Lib.hid hp1
     have HP2:=Lib.hid hp2
     have HG:=Lib.hid hg
     have HVA:=Lib.hid hva
     have HVB:=Lib.hid hvb
     clear f0 f1 hc hdrop hfo hp1 hp2 hpb hg hva hvb
     have hw1 : w.heap.size < wr.heap.size:=by omega
     have h2b : (∀ q,va.ownBlock = some q → q < wr.heap.size) ∧ ∀ q,vb.ownBlock = some q → q < wr.heap.size:=⟨fun q e => (h2x.a.lt e).2,fun q e => (h2x.b.lt e).2⟩
     have hnew : ∀ (z1 z2 : Value),Go.RowKit.Below wr.heap.size wr ((wr.alloc (.cells #[.int .i64 c1,.int .i64 c2] 23)).alloc (.cells #[z1,z2] 39)) ∧ ((wr.alloc (.cells #[.int .i64 c1,.int .i64 c2] 23)).alloc (.cells #[z1,z2] 39)).heap[wr.heap.size]? = some (.cells #[.int .i64 c1,.int .i64 c2] 23 (0,0)) ∧ ((wr.alloc (.cells #[.int .i64 c1,.int .i64 c2] 23)).alloc (.cells #[z1,z2] 39)).heap[wr.heap.size + 1]? = some (.cells #[z1,z2] 39 (0,0)) ∧ ((wr.alloc (.cells #[.int .i64 c1,.int .i64 c2] 23)).alloc (.cells #[z1,z2] 39)).heap.size = wr.heap.size + 2:=fun z1 z2 =>
      ⟨hal.alloc (by rw [hs1];omega) _,(Lib.alloc_old _ _ _ (by rw [hs1];omega)).trans (heap_new _ _),by have:=heap_new (wr.alloc (.cells #[.int .i64 c1,.int .i64 c2] 23)) (.cells #[z1,z2] 39);rwa [hs1] at this,by simp⟩
     have HNEW:=Lib.hid hnew
     clear hnew hal
     by_cases hd : (c1,c2) ∈ L
     case' pos =>
      simp only [gotA,if_pos hd,decide_eq_true hd,strV,← HP1.out,← HP2.out] at hlk
      go_wp2_with fail
      obtain ⟨k0,k1,k2,k3⟩:=HNEW.out (.string ⟨p1.toArray⟩) (.string ⟨p2.toArray⟩)
      clear hlk
      generalize ((wr.alloc (.cells #[.int .i64 c1,.int .i64 c2] 23)).alloc (.cells #[.string ⟨p1.toArray⟩,.string ⟨p2.toArray⟩] 39)) = W5 at k0 k1 k2 k3 ⊢
      have ht5 : ∃ n5 L5,TabIs W5 N n5 L5 ∧ n5 ≤ k + 1:=⟨n,L,htx.kept (k0.block _ (by omega)),by omega⟩
      have h25:=h2x.grown k0
      have hr5:=(k0.block _ hw1).trans hrx
      have hs5 : wr.heap.size + 2 ≤ W5.heap.size:=by omega
      have hb5:=hbx.trans (k0.mono (Nat.le_of_lt hw1))
      clear k0 k1 k3 htx h2x hrx hbx hs1 hkey hrng
     case' neg =>
      simp only [gotA,if_neg hd,decide_eq_false hd,strV] at hlk
      obtain ⟨k0,k1,k2,k3⟩:=HNEW.out (.string ⟨#[]⟩) (.string ⟨#[]⟩)
      have hbc:=hbx.trans (k0.mono (Nat.le_of_lt hw1))
      have hpul:=pulses_calls (ext hbc).1 (ext hbc).2 c1 c2
      rw [hpl] at hpul
      go_wp2_with fail
      refine hpul.mono ?_
      rintro e W3 ⟨rfl,hb3⟩
      clear hpul hlk
      generalize ((wr.alloc (.cells #[.int .i64 c1,.int .i64 c2] 23)).alloc (.cells #[.string ⟨#[]⟩,.string ⟨#[]⟩] 39)) = Wc at k0 k1 k2 k3 hbc hb3
      have hb03:=k0.trans (hb3.mono (by omega))
      have j1:=(hb3.block _ (by omega)).trans k1
      have j2:=(hb3.block _ (by omega)).trans k2
      obtain ⟨_,_,d0,d1⟩:=cells2 j2
      have ht3:=htx.kept (hb03.block _ (by omega))
      have h23:=h2x.grown hb03
      have hr3:=(hb03.block _ hw1).trans hrx
      have hs3 : wr.heap.size + 2 ≤ W3.heap.size:=by have:=hb3.size;omega
      have hbw3:=hbx.trans (hb03.mono (Nat.le_of_lt hw1))
      clear htx h2x hrx hbx hbc hb3 hb03 k0 k1 k2 k3 hs1
      have hoth : ∀ q,q ≠ wr.heap.size + 1 → ((W3.setCell ⟨wr.heap.size + 1,0,none⟩ (.string ⟨p1.toArray⟩)).setCell ⟨wr.heap.size + 1,1,none⟩ (.string ⟨p2.toArray⟩)).heap[q]? = W3.heap[q]?:=fun q hq => (heap_other hq).trans (heap_other hq)
      have i1:=(hoth wr.heap.size (by omega)).trans j1
      have i2:=box2_set (u:=.string ⟨p1.toArray⟩) (v:=.string ⟨p2.toArray⟩) j2
      obtain ⟨y0,y1,_,_⟩:=cells2 i1
      obtain ⟨z0,z1,_,_⟩:=cells2 i2
      have ht4:=ht3.kept (hoth N (by omega))
      have h24:=h23.kept fun q _ hq => hoth q (by
       rcases hq with e | e | e | e
       ·omega
       ·omega
       ·have:=(h2b.1 q e);omega
       ·have:=(h2b.2 q e);omega)
      have hr4:=(hoth _ (by omega)).trans hr3
      have hbw4:=(hbw3.setCell (p:=⟨wr.heap.size + 1,0,none⟩) (by show w.heap.size ≤ wr.heap.size + 1;omega) (.string ⟨p1.toArray⟩)).setCell (p:=⟨wr.heap.size + 1,1,none⟩) (by show w.heap.size ≤ wr.heap.size + 1;omega) (.string ⟨p2.toArray⟩)
      have hs4 : wr.heap.size + 2 ≤ ((W3.setCell ⟨wr.heap.size + 1,0,none⟩ (.string ⟨p1.toArray⟩)).setCell ⟨wr.heap.size + 1,1,none⟩ (.string ⟨p2.toArray⟩)).heap.size:=by simpa using hs3
      obtain ⟨es,ho,hperm,hrngs⟩:=ht4
      have HPERM:=Lib.hid hperm
      have HRNGS:=Lib.hid hrngs
      have H24:=Lib.hid h24
      have HB4:=Lib.hid hbw4
      have HR4:=Lib.hid hr4
      have HK:=Lib.hid hkey
      have HI2:=Lib.hid i2
      clear hperm hrngs h24 hbw4 hr4 hkey hoth i1 ht3 h23 hr3 hs3 hbw3 j1 j2
      go_wp2_with (first
       | (at_mapUpdate;refine wpList_mapUpdate_own _ rfl _ _ _ 78 rfl 23 39 keyed23 Tryz.underlying78 trR N n (.map es) rfl ho (by unfold maxLen;omega) _ _ _ rfl rfl HK.out (trD p1 p2) [] rfl ?_;intro W5 hown4 hgrow4)
       | fail)
      have hoth4 : ∀ q,q < wr.heap.size + 2 → q ≠ N → W5.heap[q]? = _:=fun q hq hne => hgrow4.block q (by omega) (fun e => hne (by injection e with e))
      have k2:=(hoth4 _ (by omega) (by omega)).trans HI2.out
      have ht5 : ∃ n5 L5,TabIs W5 N n5 L5 ∧ n5 ≤ k + 1:=⟨n + 1,(c1,c2) :: L,⟨_,hown4,by rw [HP1.out,HP2.out];exact tab_put HPERM.out HRNGS.out hrng hd,fun c hc => by
       rcases List.mem_cons.1 hc with rfl | hc
       ·exact hrng
       ·exact HRNGS.out c hc⟩,by omega⟩
      have h25:=H24.out.kept fun q _ hq => hoth4 q (by
       rcases hq with e | e | e | e
       ·omega
       ·omega
       ·have:=(h2b.1 q e);omega
       ·have:=(h2b.2 q e);omega) (by
       rcases hq with e | e | e | e
       ·omega
       ·omega
       ·have:=(H24.out.a.lt e).1;omega
       ·have:=(H24.out.b.lt e).1;omega)
      have hr5:=(hoth4 _ (by omega) (by omega)).trans HR4.out
      have hs5 : wr.heap.size + 2 ≤ W5.heap.size:=by have:=hgrow4.size;omega
      have hb5 : Go.RowKit.Below w.heap.size w W5:=HB4.out.grown hgrow4 HB4.out.size (fun j e => by injection e with e;omega)
      clear hoth4 hown4 hgrow4 HI2 HK ho z0 z1 y0 y1 hrng
     all_goals
      (refine wp_region_still_lit (by kernel_rfl) (by kernel_rfl) ?_
       have k26 : ({ W5 with drawn:=W5.drawn + 1 } : World).heap[wr.heap.size + 1]? = _:=k2
       have ht6 : ∃ n5 L5,TabIs ({ W5 with drawn:=W5.drawn + 1 } : World) N n5 L5 ∧ n5 ≤ k + 1:=ht5
       have h26 : Two (N + 1) va vb x y ({ W5 with drawn:=W5.drawn + 1 } : World):=h25.kept fun _ _ _ => rfl
       have hr6 : ({ W5 with drawn:=W5.drawn + 1 } : World).heap[w.heap.size]? = _:=hr5
       have hs6 : wr.heap.size + 2 ≤ ({ W5 with drawn:=W5.drawn + 1 } : World).heap.size:=hs5
       have hb6 : Go.RowKit.Below w.heap.size w ({ W5 with drawn:=W5.drawn + 1 } : World):=⟨hb5.os,hb5.tape,hb5.output,hb5.size,hb5.block⟩
       clear k2 ht5 h25 hr5 hs5 hb5
       generalize ({ W5 with drawn:=W5.drawn + 1 } : World) = W6 at k26 ht6 h26 hr6 hs6 hb6 ⊢
       obtain ⟨q0,q1,_,_⟩:=cells2 k26
       have hsz1 : (ByteArray.mk p1.toArray).size = p1.length:=rfl
       have hwr : IntKind.i64.wrap ((x.length : Int) + (p1.length : Int)) = (x.length : Int) + (p1.length : Int):=wrap64 (by omega) (by omega)
       still_call (lenA h26)
       repeat still_step
       refine wpStill_nil ?_
       by_cases hlong : x.length + p1.length ≤ 262144
       ·have hlong' : ¬ ((262144 : Int) < (x.length : Int) + (p1.length : Int)):=by omega
        have hwa:=writeA h26 p1 (by omega) (by omega)
        have hfo':=HFO.out.trans (fold_go (m:=(c1,c2)) (by show x.length + (pulA c1 c2).1.length ≤ 262144;rw [← HP1.out];exact hlong))
        have HFO2:=Lib.hid hfo'
        have HK26:=Lib.hid k26
        have HR6:=Lib.hid hr6
        clear hfo' k26 hr6
        go_wp2_with fail
        refine hwa.mono ?_
        rintro e W7 ⟨⟨z,rfl⟩,v1,h27,hb7,hk7⟩
        clear hwa
        have k27:=(hk7 (wr.heap.size + 1) (by omega) (by omega) (fun e => by have:=h2b.1 _ e;omega)).trans HK26.out
        obtain ⟨r0,r1,_,_⟩:=cells2 k27
        have hr7:=(hb7.block w.heap.size (by omega)).trans HR6.out
        have hs7:=hb7.size
        have hwb:=writeB h27 p2 (by omega) (by omega)
        have HR7:=Lib.hid hr7
        clear q0 q1 k27 hr7 hk7
        go_wp2_with fail
        refine hwb.mono ?_
        rintro e W8 ⟨⟨z2,rfl⟩,v2,h28,hb8⟩
        clear hwb r0 r1
        have hs8:=hb8.size
        obtain ⟨n5,L5,t5,hn5⟩:=ht6
        go_wp2_with fail
        refine ⟨⟨k + 1,n5,v1,v2,L5,x ++ p1,y ++ p2,by go_num,rfl,by omega,?_,by rw [List.length_append];exact hlong,by rw [List.length_append,List.length_append];omega,fun e => absurd (List.append_eq_nil_iff.1 e).2 hpn.1,fun e => absurd (List.append_eq_nil_iff.1 e).2 hpn.2,(t5.kept (hb7.block N (by omega))).kept (hb8.block N (by omega)),hn5,h28,(hb8.block w.heap.size (by omega)).trans HR7.out,by omega,(hb6.trans (hb7.mono (by omega))).trans (hb8.mono (by omega))⟩,by simp [intOf];omega⟩
        rw [HFO2.out,HP1.out,HP2.out]
       ·have hlong' : (262144 : Int) < (x.length : Int) + (p1.length : Int):=by omega
        have HR:=Lib.hid (trainR_long HQ.out (HFO.out.trans (fold_stop (m:=(c1,c2)) (by show ¬ x.length + (pulA c1 c2).1.length ≤ 262144;rw [← HP1.out];exact hlong))))
        obtain ⟨m0,m1,m2,m3⟩:=cells2 hr6
        have HR6:=Lib.hid hr6
        clear hr6
        go_wp2_with fail
        have hf:=box2_set (u:=.string ⟨#[]⟩) (v:=.string ⟨#[]⟩) HR6.out
        have hbf:=(hb6.setCell (p:=⟨w.heap.size,0,none⟩) (Nat.le_refl _) (.string ⟨#[]⟩)).setCell (p:=⟨w.heap.size,1,none⟩) (Nat.le_refl _) (.string ⟨#[]⟩)
        generalize ((W6.setCell ⟨w.heap.size,0,none⟩ (.string ⟨#[]⟩)).setCell ⟨w.heap.size,1,none⟩ (.string ⟨#[]⟩)) = Wf at hf hbf ⊢
        obtain ⟨c0',c1'',_,_⟩:=cells2 hf
        refine bodyPost_ret (v:=.tuple #[.agg #[.string ⟨#[]⟩,.string ⟨#[]⟩],.int .i64 83]) (by rw [results_cell_tmp Tryz.results23];go_simp) rfl ?_
        exact ⟨by rw [HR.out];rfl,hbf⟩)
    ·have hkl : k = ms.length:=by omega
     subst hkl
     rw [List.drop_length] at hfo
     have hR:=trainR_good HQ.out hfo
     have HR:=Lib.hid hR
     have HVB:=Lib.hid hvb
     have hta:=two_text h2x hva (by omega)
     have HRX:=Lib.hid hrx
     clear hR hfo hvb hva hrx
     go_wp2_with fail
     refine hta.mono ?_
     rintro e W5 ⟨rfl,hb5,hbl5⟩
     clear hta
     have htb:=one_text hbl5 HVB.out (by have:=hb5.size;omega)
     go_wp2_with fail
     refine htb.mono ?_
     rintro e W6 ⟨rfl,hb6⟩
     have hs5:=hb5.size
     have hr6:=(hb6.block w.heap.size (by omega)).trans ((hb5.block w.heap.size (by omega)).trans HRX.out)
     obtain ⟨m0,m1,m2,m3⟩:=cells2 hr6
     have hbw6:=(hbx.trans (hb5.mono (by omega))).trans (hb6.mono (by omega))
     have HR6:=Lib.hid hr6
     clear htb hr6
     go_wp2_with fail
     have hf:=box2_set (u:=.string ⟨x.toArray⟩) (v:=.string ⟨y.toArray⟩) HR6.out
     have hbf:=(hbw6.setCell (p:=⟨w.heap.size,0,none⟩) (Nat.le_refl _) (.string ⟨x.toArray⟩)).setCell (p:=⟨w.heap.size,1,none⟩) (Nat.le_refl _) (.string ⟨y.toArray⟩)
     generalize ((W6.setCell ⟨w.heap.size,0,none⟩ (.string ⟨x.toArray⟩)).setCell ⟨w.heap.size,1,none⟩ (.string ⟨y.toArray⟩)) = Wf at hf hbf ⊢
     obtain ⟨c0',c1'',_,_⟩:=cells2 hf
     refine bodyPost_ret (v:=.tuple #[.agg #[.string ⟨x.toArray⟩,.string ⟨y.toArray⟩],.int .i64 0]) (by rw [results_cell_tmp Tryz.results23];go_simp) rfl ?_
     exact ⟨by rw [HR.out];rfl,hbf⟩
end Go.Proofs.YtpffkpaiihcffaaGreatDoor
end
section
namespace Go.Proofs.YtpffkpaiihcffaaGreatDoor
open Go Go.Proofs Go.Proofs.YtpffkpaiihcffaaGreatDoor.VM Go.RowKit Go.Shelf Go.Lib Go.Sort
theorem str_fr {w : World} {A : Nat → Prop} (l : List UInt8) : FR w A (.str l) (strV l):=.str ⟨l.toArray⟩
theorem train_fr {w : World} {A : Nat → Prop} (a b : List UInt8) : FR w A (.agg [.str a,.str b]) (.agg #[strV a,strV b]) :=
 FR.agg [.str a,.str b] [strV a,strV b] rfl (fun u hu => (List.mem_cons.1 hu).elim (fun e => by rw [e];rfl) (fun e => by rw [List.mem_singleton.1 e];rfl)) fun k y u hy hu => by
  match k,hy,hu with
  | 0,hy,hu => cases hy;cases hu;exact str_fr _
  | 1,hy,hu => cases hy;cases hu;exact str_fr _
  | k + 2,hy,hu => simp at hy
theorem train_rets {fn : Func} (hs : fn.resultTypes.size = 2) (hr : fn.resultTypes.toList = [39,25]) {w w' : World} {A : Nat → Prop} (hA : ∀ b,A b → b < w.heap.size) (hb : Go.RowKit.Below w.heap.size w w') (a b : List UInt8) (n : Int) :
  Ret E [] fn w A (trainF a b n) (.tuple #[.agg #[strV a,strV b],.int .i64 n]) w':=by
 refine ⟨A,[.agg #[strV a,strV b],.int .i64 n],[.agg [.str a,.str b],.int .i64 n],[],⟨fun _ h => h,fun k hk => hb.block k (hA k hk)⟩,fun k h => .inl h,fun k h => Nat.lt_of_lt_of_le (hA k h) hb.size,hb,rfl,rfl,by rw [hs];rfl,?_,List.nodup_nil,fun k hk => by cases hk⟩
 rw [hr]
 refine ⟨[],[],rfl,⟨train_fr a b,fun h => ?_,rfl⟩,[],[],rfl,⟨.int _ _,fun _ => rfl,rfl⟩,rfl⟩
 have e : (E.ty 39).isAgg = true:=by kernel_rfl
 rw [e] at h;cases h
theorem pul_ov {xs : List FV} {y : FV} (h : pulOv xs = some y) {cs : List Value} {w : World} {A : Nat → Prop} (hA : ∀ b,A b → b < w.heap.size) (ha : ArgsR E w A (pars E Tryz.f24) xs cs) :
  Calls Tryz.prog 24 cs.toArray w fun e w' => ∃ v,e = .returned v ∧ Ret E [] Tryz.f24 w A y v w':=by
 unfold pulOv at h
 split at h
 ·rename_i k s
  cases h
  obtain ⟨a1,a2,gl,a3⟩:=ha
  have hp : pars E Tryz.f24 = [23]:=by kernel_rfl
  rw [hp] at a1 a3
  match cs,a2 with
  | [u],_ =>
   obtain ⟨f0,_⟩:=a3 0 _ _ _ rfl rfl rfl
   have hu : u = .agg #[.int .i64 k,.int .i64 s]:=by
    generalize hx : FV.agg [.int .i64 k,.int .i64 s] = x at f0
    cases f0 with
    | agg xs us hl h1 hc =>
     cases hx
     match us,hl with
     | [u1,u2],_ =>
      have g1:=hc 0 _ _ rfl rfl
      have g2:=hc 1 _ _ rfl rfl
      cases g1;cases g2;rfl
    | _ => cases hx
   subst hu
   refine (pulses_calls hA gl k s).mono fun e w' ⟨he,hb⟩ => ⟨_,he,?_⟩
   unfold pulR pulV
   cases rgtA k s with
   | false => exact train_rets (by kernel_rfl) (by kernel_rfl) hA hb _ _ _
   | true => exact train_rets (by kernel_rfl) (by kernel_rfl) hA hb _ _ _
 ·cases h
theorem trainA_eq (ms : List Mv) : trainA ms = trainF (trainR ms).1 (trainR ms).2.1 (trainR ms).2.2:=by
 unfold trainA trainR
 cases ms.all fun m => rgtA m.1 m.2 with
 | false => rfl
 | true => cases foldT ms [] [] <;> rfl
theorem train_ov {xs : List FV} {y : FV} (h : trainOv xs = some y) {cs : List Value} {w : World} {A : Nat → Prop} (hA : ∀ b,A b → b < w.heap.size) (ha : ArgsR E w A (pars E Tryz.f23) xs cs) :
  Calls Tryz.prog 23 cs.toArray w fun e w' => ∃ v,e = .returned v ∧ Ret E [] Tryz.f23 w A y v w':=by
 unfold trainOv at h
 split at h
 ·rename_i l
  obtain ⟨r,h1,h⟩:=bindO_some h
  obtain ⟨ms,h2,h⟩:=bindO_some h
  obtain ⟨h3,h⟩:=gB_some h
  cases h
  obtain ⟨a1,a2,gl,a3⟩:=ha
  have hp : pars E Tryz.f23 = [33]:=by kernel_rfl
  rw [hp] at a1 a3
  match cs,a2 with
  | [u],_ =>
   obtain ⟨f0,_⟩:=a3 0 _ _ _ rfl rfl rfl
   refine (train_walk w hA gl (movesR_of f0 h1 h2) (of_decide_eq_true h3)).mono fun e w' ⟨he,hb⟩ => ⟨_,he,?_⟩
   rw [trainA_eq]
   exact train_rets (by kernel_rfl) (by kernel_rfl) hA hb _ _ _
 ·cases h
end Go.Proofs.YtpffkpaiihcffaaGreatDoor
end
section
namespace Go.Proofs.YtpffkpaiihcffaaGreatDoor
open Go Go.Proofs Go.Proofs.YtpffkpaiihcffaaGreatDoor.VM Go.RowKit Go.WideMaps Go.ChangeMaps Go.Maps Go.WideShapes
noncomputable abbrev intR : Value → Option (DataW Unit × List MemPlace):=plainElem Tryz.prog 3
theorem und3 : Tryz.prog.underlying 3 = some (.int .i64):=by kernel_rfl
def entI (c : Cel) : Lit × DataW Unit:=(keyL c,.lit (.int .i64 c.2.2))
def SiteIs (w : World) (b n : Nat) (L : List Cel) : Prop:=∃ es,w.ownsMap Tryz.prog 101 intR b n (.map es) ∧ es.Perm (L.map entI) ∧ (∀ c ∈ L,Rng c) ∧ ApartC L
theorem filter_entI {c : Cel} (hc : Rng c) : ∀ (L : List Cel),(∀ d ∈ L,Rng d) → (L.map entI).filter (notKey (keyL c)) = (L.filter fun d => !smC d c).map entI
 | [],_ => rfl
 | d :: L,h => by
  have ih:=filter_entI hc L fun e he => h e (List.mem_cons_of_mem _ he)
  have hk : notKey (keyL c) (entI d) = !smC d c:=by
   unfold notKey entI
   congr 1
   rw [Bool.eq_iff_iff,WideAt.sameKey_iff (keyL_key c),smC_iff]
   exact ⟨fun e => keyL_inj (h d (by simp)) hc e,fun e => keyL_same (smC_iff.2 e)⟩
  rw [List.map_cons,List.filter_cons,List.filter_cons,hk,ih]
  cases smC d c <;> rfl
theorem SiteIs.made (w : World) : SiteIs (w.alloc (.map #[] 0)) w.heap.size 0 []:=⟨[],World.ownsMap_made w _ _ _,List.Perm.nil,by simp,List.Pairwise.nil⟩
theorem SiteIs.kept {w w' : World} {b n : Nat} {L : List Cel} (h : SiteIs w b n L) (hg : w.heap.size ≤ w'.heap.size) (hb : w'.heap[b]? = w.heap[b]?) : SiteIs w' b n L:=by
 obtain ⟨es,⟨xs,clock,k1,k2⟩,h2⟩:=h
 exact ⟨es,⟨xs,clock,hb.trans k1,k2⟩,h2⟩
theorem SiteIs.lt {w : World} {b n : Nat} {L : List Cel} (h : SiteIs w b n L) : b < w.heap.size:=by
 obtain ⟨es,h1,_⟩:=h
 exact h1.lt
theorem ent_apart {es : List (Lit × DataW Unit)} {w : World} {b n : Nat} (h : w.ownsMap Tryz.prog 101 intR b n (.map es)) : es.Pairwise fun p q => p.1 ≠ q.1:=by
 obtain ⟨es',h1,h2,_⟩:=h.entries keyed101
 cases h1
 exact h2
theorem atI_none {L : List Cel} {x y : Int} (h : ∀ d ∈ L,¬ (d.1 = x ∧ d.2.1 = y)) : atI L x y = 0:=by
 by_cases e : atI L x y = 0
 ·exact e
 ·exact absurd ⟨rfl,rfl⟩ (h _ (atI_some e))
theorem SiteIs.at_ {w : World} {b n : Nat} {L : List Cel} {es : List (Lit × DataW Unit)} (ho : w.ownsMap Tryz.prog 101 intR b n (.map es)) (hp : es.Perm (L.map entI)) (hr : ∀ c ∈ L,Rng c) (ha : ApartC L) {c : Cel} (hc : Rng c) :
  (DataW.map es).atKey (keyL c) (.lit (.int .i64 0)) = .lit (.int .i64 (atI L c.1 c.2.1)):=by
 have hap:=ent_apart ho
 by_cases hm : ∃ s,(c.1,c.2.1,s) ∈ L
 ·obtain ⟨s,hs⟩:=hm
  rw [atI_mem ha hs]
  exact WideAt.atKey_mem _ (keyL_key c) hap (hp.mem_iff.2 (List.mem_map.2 ⟨_,hs,rfl⟩))
 ·rw [atI_none (fun d hd e => hm ⟨d.2.2,by obtain ⟨x,y,s⟩:=d;obtain ⟨rfl,rfl⟩:=e;exact hd⟩)]
  refine atKey_of_not_has ?_ _
  cases hh : has (.map es) (keyL c) with
  | false => rfl
  | true =>
   obtain ⟨p,hpm,hk⟩:=List.any_eq_true.1 (show es.any (fun p => p.1.sameKey (keyL c)) = true from hh)
   obtain ⟨d,hd,rfl⟩:=List.mem_map.1 (hp.mem_iff.1 hpm)
   have:=keyL_inj (hr d hd) hc (WideAt.sameKey_eq hk)
   exact absurd ⟨d.2.2,by obtain ⟨x,y,s⟩:=d;obtain ⟨e1,e2⟩:=this;simp only at e1 e2;subst e1;subst e2;exact hd⟩ hm
theorem site_put {L : List Cel} {es : List (Lit × DataW Unit)} {c : Cel} (hc : Rng c) (hL : ∀ d ∈ L,Rng d) (h : es.Perm (L.map entI)) : (putKey (keyL c) (.lit (.int .i64 c.2.2)) es).Perm ((putC L c).map entI):=by
 unfold putKey putC
 rw [List.map_cons,← filter_entI hc L hL]
 exact (insert_perm _ _).trans ((h.filter _).cons _)
theorem site_del {L : List Cel} {es : List (Lit × DataW Unit)} {c : Cel} (hc : Rng c) (hL : ∀ d ∈ L,Rng d) (h : es.Perm (L.map entI)) : (es.filter (notKey (keyL c))).Perm ((delC L c).map entI):=by
 unfold delC
 rw [← filter_entI hc L hL]
 exact h.filter _
theorem delC_rng {L : List Cel} {c : Cel} (h : ∀ d ∈ L,Rng d) : ∀ d ∈ delC L c,Rng d:=fun d hd => h d (List.mem_filter.1 hd).1
theorem intR_mk {s : Int} (h : (Lit.int .i64 s).wf = true) : intR (.int .i64 s) = some (.lit (.int .i64 s),[]):=plainElem_int und3 h
theorem intR_inv {v : Value} {z : DataW Unit × List MemPlace} (h : intR v = some z) : ∃ s,v = .int .i64 s ∧ z = (.lit (.int .i64 s),[]) ∧ (Lit.int .i64 s).wf = true:=plainElem_int_inv und3 h
def AllI (L xs : List Cel) : Prop:=ApartC xs ∧ ∀ c,c ∈ xs ↔ c ∈ L
def CameI (es : List (Lit × DataW Unit)) (left : Lit → Bool) (pre : List Cel) : Prop :=
 (∀ c ∈ pre,Rng c) ∧ ApartC pre ∧ (∀ z,(∃ c ∈ pre,keyL c = z) ↔ has (.map es) z = true ∧ left z = false) ∧ ∀ c ∈ pre,∀ zd,(DataW.map es).atKey (keyL c) zd = .lit (.int .i64 c.2.2)
theorem CameI.start (es : List (Lit × DataW Unit)) : CameI es (has (.map es)) []:=⟨by simp,List.Pairwise.nil,fun z => by cases has (DataW.map es) z <;> simp,by simp⟩
theorem apart_keyI {c d : Cel} (hc : Rng c) (hd : Rng d) : smC c d = false ↔ keyL c ≠ keyL d:=by
 constructor
 ·intro h e
  have:=keyL_inj hc hd e
  rw [smC_no] at h
  exact h this
 ·intro h
  cases hs : smC c d with
  | false => rfl
  | true => exact absurd (keyL_same hs) h
theorem CameI.step {es : List (Lit × DataW Unit)} {left : Lit → Bool} {pre : List Cel} (h : CameI es left pre) {c : Cel} (hr : Rng c) (hl : left (keyL c) = true) (hat : ∀ zd,(DataW.map es).atKey (keyL c) zd = .lit (.int .i64 c.2.2)) :
  CameI es (fun z => left z && !z.sameKey (keyL c)) (pre ++ [c]):=by
 obtain ⟨h1,h2,h3,h4⟩:=h
 have hhas : has (.map es) (keyL c) = true:=has_true_of_atKey hat
 have hnew : ∀ d ∈ pre,keyL d ≠ keyL c:=fun d hd e => by
  have:=((h3 (keyL c)).1 ⟨d,hd,e⟩).2
  rw [hl] at this;cases this
 refine ⟨fun d hd => ?_,List.pairwise_append.2 ⟨h2,by simp,fun a ha b hb => ?_⟩,fun z => ?_,fun d hd => ?_⟩
 ·rcases List.mem_append.1 hd with hd | hd
  ·exact h1 d hd
  ·simp only [List.mem_singleton] at hd;subst hd;exact hr
 ·simp only [List.mem_singleton] at hb;subst hb
  exact (apart_keyI (h1 a ha) hr).2 (hnew a ha)
 ·have e : z.sameKey (keyL c) = true ↔ z = keyL c:=WideAt.sameKey_iff (keyL_key c)
  by_cases hz : z = keyL c
  ·subst hz
   simp [hhas,WideAt.sameKey_self (keyL_key c)]
  ·have e2 : z.sameKey (keyL c) = false:=by cases hs : z.sameKey (keyL c) with
    | false => rfl
    | true => exact absurd (e.1 hs) hz
   show _ ↔ has (DataW.map es) z = true ∧ (left z && !z.sameKey (keyL c)) = false
   rw [e2]
   simp only [Bool.not_false,Bool.and_true]
   rw [← h3 z]
   constructor
   ·rintro ⟨d,hd,he⟩
    rcases List.mem_append.1 hd with hd | hd
    ·exact ⟨d,hd,he⟩
    ·simp only [List.mem_singleton] at hd;subst hd;exact absurd he.symm hz
   ·rintro ⟨d,hd,he⟩;exact ⟨d,List.mem_append_left _ hd,he⟩
 ·rcases List.mem_append.1 hd with hd | hd
  ·exact h4 d hd
  ·simp only [List.mem_singleton] at hd;subst hd;exact hat
theorem cel_ext {c d : Cel} (hc : Rng c) (hd : Rng d) (h : keyL c = keyL d) (k : (DataW.lit (.int .i64 c.2.2) : DataW Unit) = .lit (.int .i64 d.2.2)) : c = d:=by
 obtain ⟨h1,h2⟩:=keyL_inj hc hd h
 simp only [DataW.lit.injEq,Lit.int.injEq,true_and] at k
 exact Prod.ext h1 (Prod.ext h2 k)
theorem CameI.all {es : List (Lit × DataW Unit)} {left : Lit → Bool} {pre L : List Cel} (h : CameI es left pre) (hl : ∀ z,left z = false) (hp : es.Perm (L.map entI)) (hap : es.Pairwise fun p q => p.1 ≠ q.1) (hr : ∀ c ∈ L,Rng c) : AllI L pre:=by
 obtain ⟨h1,h2,h3,h4⟩:=h
 have at_ : ∀ c ∈ L,(DataW.map es).atKey (keyL c) .nil = .lit (.int .i64 c.2.2):=fun c hc => WideAt.atKey_mem .nil (keyL_key c) hap (hp.mem_iff.2 (List.mem_map.2 ⟨c,hc,rfl⟩))
 refine ⟨h2,fun c => ⟨fun hc => ?_,fun hc => ?_⟩⟩
 ·have:=((h3 (keyL c)).1 ⟨c,hc,rfl⟩).1
  obtain ⟨p,hpm,hk⟩:=List.any_eq_true.1 (show es.any (fun p => p.1.sameKey (keyL c)) = true from this)
  obtain ⟨d,hd,rfl⟩:=List.mem_map.1 (hp.mem_iff.1 hpm)
  have ek : keyL d = keyL c:=WideAt.sameKey_eq hk
  have e1:=at_ d hd
  rw [ek,h4 c hc .nil] at e1
  rw [cel_ext (h1 c hc) (hr d hd) ek.symm e1];exact hd
 ·have hh : has (.map es) (keyL c) = true:=List.any_eq_true.2 ⟨entI c,hp.mem_iff.2 (List.mem_map.2 ⟨c,hc,rfl⟩),WideAt.sameKey_self (keyL_key c)⟩
  obtain ⟨d,hd,ek⟩:=(h3 (keyL c)).2 ⟨hh,hl _⟩
  have e1:=h4 d hd .nil
  rw [ek,at_ c hc] at e1
  rw [cel_ext (hr c hc) (h1 d hd) ek.symm e1];exact hd
theorem entry_ofI {es : List (Lit × DataW Unit)} {L : List Cel} {kl : Lit} {p : Int × Int} {s : Int} (hk : keyOf Tryz.prog 101 (.agg #[.int .i64 p.1,.int .i64 p.2]) = some kl) : kl = keyL (p.1,p.2,s) ∧ Rng (p.1,p.2,s):=by
 obtain ⟨q,hv,hl,hr⟩:=keyOf_inv hk
 simp only [Value.agg.injEq,Array.mk.injEq,List.cons.injEq,Value.int.injEq,true_and,and_true] at hv
 obtain ⟨e1,e2⟩:=hv
 obtain ⟨a,b⟩:=p
 obtain ⟨a',b'⟩:=q
 simp only at e1 e2
 subst e1;subst e2
 exact ⟨hl,hr⟩
end Go.Proofs.YtpffkpaiihcffaaGreatDoor
end
section
namespace Go.Proofs.YtpffkpaiihcffaaGreatDoor.Z
open Go Go.Proofs Go.Proofs.YtpffkpaiihcffaaGreatDoor.VM Go.RowKit
theorem stands_z (x y : Int) : arm_stands (.int .i64 x) (.int .i64 y) = some (.bool (okA x y)):=by
 rw [arm_stands.eq]
 simp only [fBin_geq,fBin_leq,bindO_s,fCond_b,okA]
 by_cases h1 : 2 ≤ x <;> by_cases h2 : x ≤ 60 <;> by_cases h3 : -1 ≤ y <;> simp [h1,h2,h3]
theorem formed_z (k c : Int) : arm_formed (.agg [.int .i64 k,.int .i64 c]) = some (.bool (rgtA k c)):=by
 obtain ⟨w,h⟩:=word_z c
 rw [arm_formed.eq]
 simp only [fIsAgg_agg,List.length_cons,List.length_nil,fCell_zero,fCell_succ,fBin_geq,fBin_leq,bindO_s,fCond_b,arm_formed.L0_eq,fBin_eql,h,rgtA,fIsTup_tup,fTup_zero,fTup_succ]
 by_cases h7 : k = 7
 ·subst h7;simp
 by_cases h8 : k = 8
 ·subst h8;simp
 by_cases h1 : 1 ≤ k <;> by_cases h2 : k ≤ 6 <;> simp [h1,h2,h7,h8]
theorem after_z (h v k s : Int) : ∃ a b,arm_After (.int .i64 h) (.int .i64 v) (.agg [.int .i64 k,.int .i64 s]) = some (.tup [.int .i64 a,.int .i64 b,.int .i64 (errA h v k s)]) ∧ (errA h v k s = 0 → a = toH h k ∧ b = toV v k):=by
 unfold errA
 rw [arm_After.eq]
 simp only [fIsAgg_agg,List.length_cons,List.length_nil,fCell_zero,fCell_succ,stands_z,formed_z,bindO_s,fUn_not,fCond_b,gB_t,Nat.zero_add,Nat.reduceAdd,beq_self_eq_true]
 cases hs : okA h v with
 | false => exact ⟨0,0,rfl,fun e => by simp at e⟩
 | true =>
  cases hr : rgtA k s with
  | false => exact ⟨0,0,rfl,fun e => by simp at e⟩
  | true =>
   simp only [okA,Bool.and_eq_true,decide_eq_true_eq] at hs
   obtain ⟨q1,q2,q3,q4⟩:=hs
   have w1 : IntKind.i64.wrap (h + 1) = h + 1:=wrap64 (by omega) (by omega)
   have w2 : IntKind.i64.wrap (h - 1) = h - 1:=wrap64 (by omega) (by omega)
   have w3 : IntKind.i64.wrap (v + 1) = v + 1:=wrap64 (by omega) (by omega)
   have w4 : IntKind.i64.wrap (v - 1) = v - 1:=wrap64 (by omega) (by omega)
   have hk : k = 1 ∨ k = 2 ∨ k = 3 ∨ k = 4 ∨ k = 5 ∨ k = 6 ∨ k = 7 ∨ k = 8:=by
    unfold rgtA at hr
    split at hr
    ·omega
    ·simp only [Bool.and_eq_true,decide_eq_true_eq] at hr;omega
   have fin : ∀ a b : Int,∃ p q : Int,(if okA a b = false then some (FV.tup [.int .i64 0,.int .i64 0,.int .i64 81]) else some (FV.tup [.int .i64 a,.int .i64 b,.int .i64 0])) = some (FV.tup [.int .i64 p,.int .i64 q,.int .i64 (match okA a b with | false => 81 | true => 0)]) ∧ ((match okA a b with | false => (81 : Int) | true => 0) = 0 → p = a ∧ q = b):=fun a b => by
    cases okA a b with
    | false => exact ⟨0,0,rfl,fun e => by simp at e⟩
    | true => exact ⟨a,b,rfl,fun _ => ⟨rfl,rfl⟩⟩
   simp only [Bool.not_true,Bool.false_eq_true,if_false,fBin_eql,fBin_lss,fBin_leq,fBin_geq,fBin_neq,fBin_add,fBin_sub,bindO_s,fCond_b,fUn_not,fBoolBin_neq,w1,w2,w3,w4,arm_After.L0_eq,arm_After.L1_eq,arm_After.L2_eq,stands_z,Bool.true_and]
   by_cases y1 : v = -1
   ·subst y1
    rcases hk with rfl | rfl | rfl | rfl | rfl | rfl | rfl | rfl <;> simp [flatA,toH,toV] <;> exact fin _ _
   ·have y2 : ¬ v < 0:=by omega
    by_cases y3 : v = 0
    ·subst y3
     rcases hk with rfl | rfl | rfl | rfl | rfl | rfl | rfl | rfl <;> simp [flatA,toH,toV] <;> exact fin _ _
    ·have y4 : ¬ v < 1:=by omega
     have y5 : 1 ≤ v:=by omega
     rcases hk with rfl | rfl | rfl | rfl | rfl | rfl | rfl | rfl <;> simp [flatA,toH,toV,y1,y2,y3,y4,y5] <;> exact fin _ _
end Go.Proofs.YtpffkpaiihcffaaGreatDoor.Z
namespace Go.Proofs.YtpffkpaiihcffaaGreatDoor
open Go Go.Proofs Go.Proofs.YtpffkpaiihcffaaGreatDoor.VM Go.RowKit Go.Shelf
section
variable {w : World} {A : Nat → Prop} (hA : ∀ b,A b → b < w.heap.size) (gl : GlobR w A)
include hA gl
theorem after_calls (h v k s : Int) : Calls Tryz.prog 13 #[.int .i64 h,.int .i64 v,.agg #[.int .i64 k,.int .i64 s]] w fun e w' => (∃ a b,e = .returned (.tuple #[.int .i64 a,.int .i64 b,.int .i64 (errA h v k s)]) ∧ (errA h v k s = 0 → a = toH h k ∧ b = toV v k)) ∧ Go.RowKit.Below w.heap.size w w':=by
 obtain ⟨a,b,hz,hab⟩:=Z.after_z h v k s
 refine (z_calls (fn:=Tryz.f13) (cs:=[.int .i64 h,.int .i64 v,.agg #[.int .i64 k,.int .i64 s]]) (by kernel_rfl) (by kernel_rfl) (by kernel_rfl) hz hA ⟨by kernel_rfl,rfl,gl,fun i t y u ht hy hu => by
  have ep : Tryz.f13.params.toList = [3,3,23]:=by kernel_rfl
  rw [ep] at ht
  match i,ht,hy,hu with
  | 0,ht,hy,hu => cases hy;cases hu;exact ⟨.int _ _,fun _ => rfl⟩
  | 1,ht,hy,hu => cases hy;cases hu;exact ⟨.int _ _,fun _ => rfl⟩
  | 2,ht,hy,hu =>
   cases hy;cases hu;cases ht
   refine ⟨FR.agg [.int .i64 k,.int .i64 s] [.int .i64 k,.int .i64 s] rfl (by simp [Value.oneCell']) fun j y u hy hu => ?_,fun hh => ?_⟩
   ·match j,hy,hu with
    | 0,hy,hu => cases hy;cases hu;exact .int _ _
    | 1,hy,hu => cases hy;cases hu;exact .int _ _
    | j + 2,hy,hu => simp at hy
   ·have e : (Z.E.ty 23).isAgg = true:=by kernel_rfl
    rw [e] at hh;cases hh
  | i + 3,ht,hy,hu => simp at hy⟩).mono fun e w' ⟨val,he,hr⟩ => ?_
 obtain ⟨A',us,ys,obs,q1,q2,q3,q4,rfl,hy,q5,q6,_,_⟩:=hr
 rw [show Tryz.f13.resultTypes.size = 3 by kernel_rfl] at q5
 match ys,q5 with
 | [y1,y2,y3],_ =>
  simp only [packF,FV.tup.injEq,List.cons.injEq,and_true] at hy
  obtain ⟨rfl,rfl,rfl⟩:=hy
  rw [show Tryz.f13.resultTypes.toList = [3,3,25] by kernel_rfl] at q6
  match us,q6 with
  | [u1,u2,u3],q6 =>
   obtain ⟨_,_,_,h1,_,_,_,h2,_,_,_,h3,_⟩:=q6
   have g1 : FR w' A' (.int .i64 a) u1:=h1.1
   have g2 : FR w' A' (.int .i64 b) u2:=h2.1
   have g3 : FR w' A' (.int .i64 (errA h v k s)) u3:=h3.1
   cases g1;cases g2
   generalize hx : FV.int .i64 (errA h v k s) = x at g3
   cases g3 with
   | int kk n => cases hx;exact ⟨⟨a,b,he,hab⟩,q4⟩
   | _ => cases hx
  | [],q6 => exact q6.elim
  | [_],q6 => obtain ⟨_,_,_,_,h⟩:=q6;exact h.elim
  | [_,_],q6 => obtain ⟨_,_,_,_,_,_,_,_,h⟩:=q6;exact h.elim
  | _ :: _ :: _ :: _ :: _,q6 => obtain ⟨_,_,_,_,_,_,_,_,_,_,_,_,h⟩:=q6;exact h.elim
end
end Go.Proofs.YtpffkpaiihcffaaGreatDoor
end
section
namespace Go.Proofs.YtpffkpaiihcffaaGreatDoor
open Go Go.Proofs Go.Proofs.YtpffkpaiihcffaaGreatDoor.VM Go.RowKit Go.Shelf Go.Maps
theorem rng_small {x y s : Int} (h1 : -1000000 ≤ x ∧ x ≤ 1000000) (h2 : -1000000 ≤ y ∧ y ≤ 1000000) : Rng (x,y,s):=by
 unfold Rng
 simp [Lit.wf,IntKind.min,IntKind.max,IntKind.bits,IntKind.signed]
 omega
theorem look_at {w : World} {b n : Nat} {L : List Cel} {es : List (Lit × DataW Unit)} (ho : w.ownsMap Tryz.prog 101 intR b n (.map es)) (hp : es.Perm (L.map entI)) (hr : ∀ c ∈ L,Rng c) (ha : ApartC L) {x y c : Int} (hc : Rng (x,y,0))
  (hat : (DataW.map es).atKey (keyL (x,y,0)) (.lit (.int .i64 0)) = .lit (.int .i64 c)) : c = atI L x y:=by
 have:=SiteIs.at_ ho hp hr ha hc
 rw [hat] at this
 simpa using this
theorem eq_place (a b c d : Int) (W : World) : (Op.equalIn 10000 101 (.agg #[.int .i64 a,.int .i64 b]) (.agg #[.int .i64 c,.int .i64 d])).run Tryz.prog W = .ok (decide (a = c) && decide (b = d)) W:=by
 obtain ⟨i,hi⟩ : ∃ i,Tryz.prog.info? 2 = some i:=Option.isSome_iff_exists.1 (by kernel_rfl)
 rw [show (10000 : Nat) = 9999 + 1 from rfl,run_equalIn_array W 9999 _ _ Tryz.underlying101 hi]
 have hr : List.range 2 = [0,1]:=rfl
 have e1:=fun (x y : Int) => run_equalIn_int (P:=Tryz.prog) W 9998 2 .i64 .i64 x y Tryz.underlying2
 have c2 : Tryz.prog.cellsOf 2 = 1:=by kernel_rfl
 rw [hr,c2]
 simp [Op.eqItems,Sem.run_bind,part,e1]
 by_cases h1 : a = c <;> by_cases h2 : b = d <;> simp [h1,h2]
theorem eq_move (a b c d : Int) (W : World) : (Op.equalIn 10000 23 (.agg #[.int .i64 a,.int .i64 b]) (.agg #[.int .i64 c,.int .i64 d])).run Tryz.prog W = .ok (decide (a = c) && decide (b = d)) W:=by
 rw [show (10000 : Nat) = 9999 + 1 from rfl,run_equalIn_struct W 9999 23 _ _ (by kernel_rfl) (by kernel_rfl)]
 have e1:=fun (x y : Int) => run_equalIn_int (P:=Tryz.prog) W 9998 3 .i64 .i64 x y Tryz.underlying3
 simp [Program.fieldsOf,Tryz.underlying23,Op.eqFields,Sem.run_bind,part,e1]
 by_cases h1 : a = c <;> by_cases h2 : b = d <;> simp [h1,h2]
theorem zero3 (W : World) : (zeroValue 3).run Tryz.prog W = .ok (.int .i64 0) W:=by simp [Tryz.zeroValue3]
theorem look_run {w : World} {b n : Nat} {L : List Cel} (hs : SiteIs w b n L) {x y : Int} (hc : Rng (x,y,0)) : (Instr.lookup 98 (.map (some b)) (.agg #[.int .i64 x,.int .i64 y]) false).run Tryz.prog w = .ok (.int .i64 (atI L x y)) w:=by
 obtain ⟨es,ho,hp,hr,ha⟩:=hs
 obtain ⟨c,hrun,hat,_⟩:=ho.lookup_int keyed101 Tryz.underlying98 und3 (zero3 w) (keyOf_cell hc)
 rw [hrun,look_at ho hp hr ha hc hat]
theorem gnd_bad {L : List Cel} {x0 y0 bx by_ : Int} {M N i j : Nat} (hi : i < M) (hj : j < N) (h : ¬ (x0 + (i : Int) = bx ∧ y0 + (j : Int) = by_)) (k : ¬ atI L (x0 + (i : Int)) (y0 + (j : Int)) = 0) : gndY L x0 y0 bx by_ M N = false:=by
 cases hg : gndY L x0 y0 bx by_ M N with
 | false => rfl
 | true => exact absurd (gndY_iff.1 hg _ _ (by omega) (by omega) (by omega) (by omega) h) k
set_option maxHeartbeats 4000000 in
set_option maxRecDepth 100000 in
theorem ground_walk (w : World) {b n : Nat} {L : List Cel} (hs : SiteIs w b n L) (x0 y0 bx by_ : Int) (M N : Nat) (hx : -1000 ≤ x0 ∧ x0 ≤ 1000) (hy : -1000 ≤ y0 ∧ y0 ≤ 1000) (hM : M ≤ 1000) (hN : N ≤ 1000) :
  Calls Tryz.prog 87 #[.map (some b),.int .i64 x0,.int .i64 y0,.int .i64 (x0 + M - 1),.int .i64 (y0 + N - 1),.agg #[.int .i64 bx,.int .i64 by_]] w fun e w' => e = .returned (.bool (gndY L x0 y0 bx by_ M N)) ∧ Go.RowKit.Below w.heap.size w w':=by
 have hz : ∀ W : World,(zeroValue 3).run Tryz.prog W = .ok (.int .i64 0) W:=fun W => by simp [Tryz.zeroValue3]
 have hpl:=eq_place
 go_enter Tryz.func87,Tryz.ntmps87
 go_wp2
 go_loopw [13] (fun iv wr => ∃ j : Nat,iv = .int .i64 (y0 + (j : Int)) ∧ j ≤ N ∧ gndY L x0 y0 bx by_ M j = true ∧ w.heap.size < wr.heap.size ∧ wr.heap[w.heap.size]? = some (.cells #[.int .i64 bx,.int .i64 by_] 101 (0,0)) ∧ Go.RowKit.Below w.heap.size w wr) (fun iv _ => N - (intOf iv - y0).toNat)
 case atStart => exact ⟨0,by simp,Nat.zero_le _,rfl,by simp,heap_new _ _,(Go.RowKit.Below.refl _ w).alloc (Nat.le_refl _) _⟩
 case round =>
  obtain ⟨j,rfl,hj,hg,hwr,hbox,hb⟩:=hrel
  by_cases hlt : j < N
  ·have hle : y0 + (j : Int) ≤ y0 + (N : Int) - 1:=by omega
   obtain ⟨W0,hW0⟩ : ∃ W,W = wr:=⟨_,rfl⟩
   rw [← hW0] at hwr hbox hb
   go_wp2
   go_loopw [14] (fun iv wr2 => ∃ i : Nat,iv = .int .i64 (x0 + (i : Int)) ∧ i ≤ M ∧ gndX L x0 (y0 + (j : Int)) bx by_ i = true ∧ wr2.heap[w.heap.size]? = some (.cells #[.int .i64 bx,.int .i64 by_] 101 (0,0)) ∧ Go.RowKit.Below w.heap.size w wr2 ∧ Go.RowKit.Below W0.heap.size W0 wr2) (fun iv _ => M - (intOf iv - x0).toNat)
   case atStart => exact ⟨0,by simp,Nat.zero_le _,rfl,by rw [← hW0];exact hbox,by rw [← hW0];exact hb,by rw [← hW0];exact Go.RowKit.Below.refl _ _⟩
   case round =>
    obtain ⟨i,rfl,hi,hgx,hbox2,hb2,hbr⟩:=hrel
    by_cases hlx : i < M
    ·have hle2 : x0 + (i : Int) ≤ x0 + (M : Int) - 1:=by omega
     have hbc0 : wr.cell? ⟨w.heap.size,0,none⟩ = some (.int .i64 bx):=by simp [World.cell?,hbox2]
     have hbc1 : wr.cell? ⟨w.heap.size,1,none⟩ = some (.int .i64 by_):=by simp [World.cell?,hbox2]
     have hsz : w.heap.size < wr.heap.size:=Nat.lt_of_lt_of_le hwr hbr.size
     have hal:=(Go.RowKit.Below.refl wr.heap.size wr).alloc (Nat.le_refl _) (.cells #[.int .i64 (x0 + (i : Int)),.int .i64 (y0 + (j : Int))] 101)
     have kb0:=(hal.cell (p:=⟨w.heap.size,0,none⟩) hsz).trans hbc0
     have kb1:=(hal.cell (p:=⟨w.heap.size,1,none⟩) hsz).trans hbc1
     have hat:=(hs.kept hb2.size (hb2.block b hs.lt)).kept hal.size (hal.block b (Nat.lt_trans hs.lt hsz))
     have hlk:=look_run (x:=x0 + (i : Int)) (y:=y0 + (j : Int)) hat (rng_small (by omega) (by omega))
     have hbx3:=(hal.block _ hsz).trans hbox2
     have hb3 : Go.RowKit.Below w.heap.size w (wr.alloc (.cells #[.int .i64 (x0 + (i : Int)),.int .i64 (y0 + (j : Int))] 101)):=hb2.trans (hal.mono (Nat.le_of_lt hsz))
     clear hal hat
     have hbr3 : Go.RowKit.Below W0.heap.size W0 (wr.alloc (.cells #[.int .i64 (x0 + (i : Int)),.int .i64 (y0 + (j : Int))] 101)):=hbr.trans ((Go.RowKit.Below.refl wr.heap.size wr).alloc (Nat.le_refl _) _ |>.mono hbr.size)
     go_wp2
     ·rename_i h1 h2
      go_ret
      exact ⟨by rw [gnd_bad hlx hlt (by omega) (by simpa using h2.2)];rfl,hb3⟩
     ·rename_i h1 h2
      refine ⟨⟨i + 1,by rw [show x0 + ((i + 1 : Nat) : Int) = x0 + (i : Int) + 1 by omega],by omega,?_,hbx3,hb3,hbr3⟩,by simp [intOf];omega⟩
      simp only [gndX,hgx,Bool.true_and,Bool.or_eq_true,Bool.and_eq_true,decide_eq_true_eq]
      rcases h2 with h2 | h2
      ·simp at h2;exact .inl h2
      ·simp at h2;exact .inr h2
     ·rename_i h1
      refine ⟨⟨i + 1,by rw [show x0 + ((i + 1 : Nat) : Int) = x0 + (i : Int) + 1 by omega],by omega,?_,hbx3,hb3,hbr3⟩,by simp [intOf];omega⟩
      simp only [gndX,hgx,Bool.true_and,Bool.or_eq_true,Bool.and_eq_true,decide_eq_true_eq]
      exact .inl (by omega)
    ·have hiM : i = M:=by omega
     subst hiM
     have hle2 : ¬ (x0 + (i : Int) ≤ x0 + (i : Int) - 1):=by omega
     go_wp2
     refine ⟨⟨j + 1,by rw [show y0 + ((j + 1 : Nat) : Int) = y0 + (j : Int) + 1 by omega],by omega,?_,Nat.lt_of_lt_of_le hwr hbr.size,hbox2,hb2⟩,by simp [intOf];omega⟩
     simp only [gndY,hg,hgx,Bool.and_self]
  ·have hjN : j = N:=by omega
   subst hjN
   have hle : ¬ (y0 + (j : Int) ≤ y0 + (j : Int) - 1):=by omega
   go_wp2
   go_ret
   exact ⟨rfl,hb⟩
end Go.Proofs.YtpffkpaiihcffaaGreatDoor
end
section
namespace Go.Proofs.YtpffkpaiihcffaaGreatDoor
open Go Go.Proofs Go.Proofs.YtpffkpaiihcffaaGreatDoor.VM Go.RowKit Go.Shelf Go.Maps
theorem ground_at (w : World) {b n : Nat} {L : List Cel} (hs : SiteIs w b n L) {x0 y0 x1 y1 bx by_ : Int} (hx : -500 ≤ x0 ∧ x0 ≤ x1 + 1 ∧ x1 ≤ 400) (hy : -500 ≤ y0 ∧ y0 ≤ y1 + 1 ∧ y1 ≤ 400) :
  Calls Tryz.prog 87 #[.map (some b),.int .i64 x0,.int .i64 y0,.int .i64 x1,.int .i64 y1,.agg #[.int .i64 bx,.int .i64 by_]] w fun e w' => e = .returned (.bool (gndC L x0 y0 x1 y1 bx by_)) ∧ Go.RowKit.Below w.heap.size w w':=by
 have h:=ground_walk w hs x0 y0 bx by_ (x1 + 1 - x0).toNat (y1 + 1 - y0).toNat (by omega) (by omega) (by omega) (by omega)
 rw [show x0 + (((x1 + 1 - x0).toNat : Nat) : Int) - 1 = x1 by omega,show y0 + (((y1 + 1 - y0).toNat : Nat) : Int) - 1 = y1 by omega] at h
 exact h
theorem cell_box {W : World} {b i : Nat} {cs : Array Value} {t : Nat} (h : W.heap[b]? = some (.cells cs t (0,0))) : W.cell? ⟨b,i,none⟩ = cs[i]?:=by simp [World.cell?,h]
set_option maxHeartbeats 4000000 in
set_option maxRecDepth 100000 in
theorem may_walk (w : World) {A : Nat → Prop} (hA : ∀ b,A b → b < w.heap.size) (gl : GlobR w A) {b n : Nat} {L : List Cel} (hs : SiteIs w b n L) (h v k s : Int) :
  Calls Tryz.prog 53 #[.map (some b),.int .i64 h,.int .i64 v,.agg #[.int .i64 k,.int .i64 s]] w fun e w' => e = .returned (.bool (mayC L h v k s)) ∧ Go.RowKit.Below w.heap.size w w':=by
 have ext : ∀ {W : World},Go.RowKit.Below w.heap.size w W → (∀ b,A b → b < W.heap.size) ∧ GlobR W A:=fun {W} h => ⟨fun b hb => Nat.lt_of_lt_of_le (hA b hb) h.size,gl.mono ⟨fun _ h => h,fun b hb => h.block b (hA b hb)⟩⟩
 obtain ⟨W0,hW0⟩ : ∃ W0,w.alloc (.cells #[.int .i64 k,.int .i64 s] 23) = W0:=⟨_,rfl⟩
 have hb0 : Go.RowKit.Below w.heap.size w W0:=by rw [← hW0];exact (Go.RowKit.Below.refl _ w).alloc (Nat.le_refl _) _
 have hs0 : w.heap.size < W0.heap.size:=by rw [← hW0];simp
 have k0 : W0.cell? ⟨w.heap.size,0,none⟩ = some (.int .i64 k):=by rw [← hW0];simp
 have k1 : W0.cell? ⟨w.heap.size,1,none⟩ = some (.int .i64 s):=by rw [← hW0];simp
 have haf:=after_calls (ext hb0).1 (ext hb0).2 h v k s
 by_cases he : errA h v k s = 0
 ·obtain ⟨e1,e2,e3,e4,e5,e6⟩:=err_kinds he
  have hk : k = 1 ∨ k = 2 ∨ k = 3 ∨ k = 4 ∨ k = 5 ∨ k = 6 ∨ k = 7 ∨ k = 8:=by omega
  simp only [okA,Bool.and_eq_true,decide_eq_true_eq] at e1
  have facts : ∀ {W1 : World},Go.RowKit.Below W0.heap.size W0 W1 → ∃ W2,W2 = (W1.alloc (.cells #[.int .i64 h,.int .i64 (-(v + 1))] 101)).alloc (.cells #[.int .i64 (-1),.int .i64 (-1)] 101) ∧
    W2.cell? ⟨w.heap.size,0,none⟩ = some (.int .i64 k) ∧ W2.cell? ⟨w.heap.size,1,none⟩ = some (.int .i64 s) ∧ W2.cell? ⟨W1.heap.size,0,none⟩ = some (.int .i64 h) ∧ W2.cell? ⟨W1.heap.size,1,none⟩ = some (.int .i64 (-(v + 1))) ∧
    W2.cell? ⟨W1.heap.size + 1,0,none⟩ = some (.int .i64 (-1)) ∧ W2.cell? ⟨W1.heap.size + 1,1,none⟩ = some (.int .i64 (-1)) ∧ SiteIs W2 b n L ∧ Go.RowKit.Below w.heap.size w W2:=fun {W1} hb1 => by
   have hlt : w.heap.size < W1.heap.size:=Nat.lt_of_lt_of_le hs0 hb1.size
   have b1:=(Go.RowKit.Below.refl W1.heap.size W1).alloc (Nat.le_refl _) (.cells #[.int .i64 h,.int .i64 (-(v + 1))] 101)
   have b2:=(Go.RowKit.Below.refl (W1.alloc (.cells #[.int .i64 h,.int .i64 (-(v + 1))] 101)).heap.size (W1.alloc (.cells #[.int .i64 h,.int .i64 (-(v + 1))] 101))).alloc (Nat.le_refl _) (.cells #[.int .i64 (-1),.int .i64 (-1)] 101)
   have hz1 : (W1.alloc (.cells #[.int .i64 h,.int .i64 (-(v + 1))] 101)).heap.size = W1.heap.size + 1:=by simp
   have bb : Go.RowKit.Below w.heap.size w W1:=hb0.trans (hb1.mono (Nat.le_of_lt hs0))
   have c0:=(hb1.cell (p:=⟨w.heap.size,0,none⟩) hs0).trans k0
   have c1:=(hb1.cell (p:=⟨w.heap.size,1,none⟩) hs0).trans k1
   have two:=b1.trans (b2.mono (by rw [hz1];omega))
   have n1:=heap_new W1 (.cells #[.int .i64 h,.int .i64 (-(v + 1))] 101)
   have n2:=heap_new (W1.alloc (.cells #[.int .i64 h,.int .i64 (-(v + 1))] 101)) (.cells #[.int .i64 (-1),.int .i64 (-1)] 101)
   rw [hz1] at n2
   have n1':=(b2.block W1.heap.size (by rw [hz1];omega)).trans n1
   refine ⟨_,rfl,(two.cell (p:=⟨w.heap.size,0,none⟩) hlt).trans c0,(two.cell (p:=⟨w.heap.size,1,none⟩) hlt).trans c1,(cell_box n1').trans rfl,(cell_box n1').trans rfl,(cell_box n2).trans rfl,(cell_box n2).trans rfl,?_,bb.trans (two.mono bb.size)⟩
   exact (hs.kept bb.size (bb.block b hs.lt)).kept two.size (two.block b (Nat.lt_of_lt_of_le hs.lt bb.size))
  rcases hk with rfl | rfl | rfl | rfl | rfl | rfl | rfl | rfl
  ·have hm : mayC L h v 1 s = gndC L (h + 1) 0 (h + 3) 1 (-1) (-1):=by unfold mayC;rw [decide_eq_true he];rfl
   rw [hm]
   go_enter Tryz.func53,Tryz.ntmps53
   go_wp2_with fail
   refine haf.mono ?_
   rintro e W1 ⟨⟨a,b',rfl,hab⟩,hb1⟩
   obtain ⟨W2,hW2,q0,q1,q2,q3,q4,q5,hst,hbw2⟩:=facts hb1
   rw [hW2] at q0 q1 q2 q3 q4 q5
   go_wp2_with fail
   rw [← hW2]
   refine (ground_at _ hst (by omega) (by omega)).mono ?_
   rintro e W3 ⟨rfl,hb3⟩
   go_wp2_with fail
   go_ret
   exact ⟨rfl,hbw2.trans (hb3.mono hbw2.size)⟩
  ·have hm : mayC L h v 2 s = gndC L (h + 1) 0 (h + 3) 1 (-1) (-1):=by unfold mayC;rw [decide_eq_true he];rfl
   rw [hm]
   go_enter Tryz.func53,Tryz.ntmps53
   go_wp2_with fail
   refine haf.mono ?_
   rintro e W1 ⟨⟨a,b',rfl,hab⟩,hb1⟩
   obtain ⟨W2,hW2,q0,q1,q2,q3,q4,q5,hst,hbw2⟩:=facts hb1
   rw [hW2] at q0 q1 q2 q3 q4 q5
   go_wp2_with fail
   rw [← hW2]
   refine (ground_at _ hst (by omega) (by omega)).mono ?_
   rintro e W3 ⟨rfl,hb3⟩
   go_wp2_with fail
   go_ret
   exact ⟨rfl,hbw2.trans (hb3.mono hbw2.size)⟩
  ·have hm : mayC L h v 3 s = gndC L (h + 1) 0 (h + 3) 1 (-1) (-1):=by unfold mayC;rw [decide_eq_true he];rfl
   rw [hm]
   go_enter Tryz.func53,Tryz.ntmps53
   go_wp2_with fail
   refine haf.mono ?_
   rintro e W1 ⟨⟨a,b',rfl,hab⟩,hb1⟩
   obtain ⟨W2,hW2,q0,q1,q2,q3,q4,q5,hst,hbw2⟩:=facts hb1
   rw [hW2] at q0 q1 q2 q3 q4 q5
   go_wp2_with fail
   rw [← hW2]
   refine (ground_at _ hst (by omega) (by omega)).mono ?_
   rintro e W3 ⟨rfl,hb3⟩
   go_wp2_with fail
   go_ret
   exact ⟨rfl,hbw2.trans (hb3.mono hbw2.size)⟩
  ·have hm : mayC L h v 4 s = gndC L (h + 1) (-(v + 2)) (h + 2) 1 (-1) (-1):=by unfold mayC;rw [decide_eq_true he];rfl
   rw [hm]
   go_enter Tryz.func53,Tryz.ntmps53
   go_wp2_with fail
   refine haf.mono ?_
   rintro e W1 ⟨⟨a,b',rfl,hab⟩,hb1⟩
   obtain ⟨W2,hW2,q0,q1,q2,q3,q4,q5,hst,hbw2⟩:=facts hb1
   rw [hW2] at q0 q1 q2 q3 q4 q5
   go_wp2_with fail
   rw [← hW2]
   refine (ground_at _ hst (by omega) (by omega)).mono ?_
   rintro e W3 ⟨rfl,hb3⟩
   go_wp2_with fail
   go_ret
   exact ⟨rfl,hbw2.trans (hb3.mono hbw2.size)⟩
  ·have hm : mayC L h v 5 s = gndC L (h + 1) (-(v + 2)) (h + 2) 1 (-1) (-1):=by unfold mayC;rw [decide_eq_true he];rfl
   rw [hm]
   go_enter Tryz.func53,Tryz.ntmps53
   go_wp2_with fail
   refine haf.mono ?_
   rintro e W1 ⟨⟨a,b',rfl,hab⟩,hb1⟩
   obtain ⟨W2,hW2,q0,q1,q2,q3,q4,q5,hst,hbw2⟩:=facts hb1
   rw [hW2] at q0 q1 q2 q3 q4 q5
   go_wp2_with fail
   rw [← hW2]
   refine (ground_at _ hst (by omega) (by omega)).mono ?_
   rintro e W3 ⟨rfl,hb3⟩
   go_wp2_with fail
   go_ret
   exact ⟨rfl,hbw2.trans (hb3.mono hbw2.size)⟩
  ·have hm : mayC L h v 6 s = gndC L (h + 1) (-1) (h + 3) 1 (-1) (-1):=by unfold mayC;rw [decide_eq_true he];rfl
   rw [hm]
   go_enter Tryz.func53,Tryz.ntmps53
   go_wp2_with fail
   refine haf.mono ?_
   rintro e W1 ⟨⟨a,b',rfl,hab⟩,hb1⟩
   obtain ⟨W2,hW2,q0,q1,q2,q3,q4,q5,hst,hbw2⟩:=facts hb1
   rw [hW2] at q0 q1 q2 q3 q4 q5
   go_wp2_with fail
   rw [← hW2]
   refine (ground_at _ hst (by omega) (by omega)).mono ?_
   rintro e W3 ⟨rfl,hb3⟩
   go_wp2_with fail
   go_ret
   exact ⟨rfl,hbw2.trans (hb3.mono hbw2.size)⟩
  ·have hm : mayC L h v 7 s = (decide (atI L h (-(v + 1)) = 0) && gndC L (h + 1) (-(v + 2)) (h + 2) 1 (-1) (-1)):=by unfold mayC;rw [decide_eq_true he];rfl
   rw [hm]
   go_enter Tryz.func53,Tryz.ntmps53
   go_wp2_with fail
   refine haf.mono ?_
   rintro e W1 ⟨⟨a,b',rfl,hab⟩,hb1⟩
   obtain ⟨W2,hW2,q0,q1,q2,q3,q4,q5,hst,hbw2⟩:=facts hb1
   have hlk:=look_run hst (x:=h) (y:=-(v + 1)) (rng_small (by omega) (by omega))
   rw [hW2] at q0 q1 q2 q3 q4 q5 hlk
   by_cases h1 : atI L h (-(v + 1)) = 0
   ·have h2:=decide_eq_true h1
    go_wp2_with fail
    rw [← hW2]
    refine (ground_at _ hst (by omega) (by omega)).mono ?_
    rintro e W3 ⟨rfl,hb3⟩
    go_wp2_with fail
    go_ret
    exact ⟨by rw [h2];rfl,hbw2.trans (hb3.mono hbw2.size)⟩
   ·have h2:=decide_eq_false h1
    go_wp2_with fail
    go_ret
    exact ⟨by rw [h2];rfl,hW2 ▸ hbw2⟩
  ·have hm : mayC L h v 8 s = (decide (atI L h (-(v + 1)) = s) && gndC L (h + 1) (-(v + 2)) (h + 2) 1 h (-(v + 1))):=by unfold mayC;rw [decide_eq_true he];rfl
   rw [hm]
   go_enter Tryz.func53,Tryz.ntmps53
   go_wp2_with fail
   refine haf.mono ?_
   rintro e W1 ⟨⟨a,b',rfl,hab⟩,hb1⟩
   obtain ⟨W2,hW2,q0,q1,q2,q3,q4,q5,hst,hbw2⟩:=facts hb1
   have hlk:=look_run hst (x:=h) (y:=-(v + 1)) (rng_small (by omega) (by omega))
   rw [hW2] at q0 q1 q2 q3 q4 q5 hlk
   go_wp2_with fail
   rw [← hW2] at q0 q1 q2 q3 q4 q5 hlk ⊢
   refine wp_region_still_tail 16 (by kernel_rfl) (by kernel_rfl) ?_
   simp only [List.take_succ_cons,List.take_zero,List.drop_succ_cons,List.drop_zero]
   have p1 : ({ W2 with drawn:=W2.drawn + 1 } : World).cell? ⟨w.heap.size,1,none⟩ = some (.int .i64 s):=q1
   have p2 : ({ W2 with drawn:=W2.drawn + 1 } : World).cell? ⟨W1.heap.size,0,none⟩ = some (.int .i64 h):=q2
   have p3 : ({ W2 with drawn:=W2.drawn + 1 } : World).cell? ⟨W1.heap.size,1,none⟩ = some (.int .i64 (-(v + 1))):=q3
   have hst4 : SiteIs ({ W2 with drawn:=W2.drawn + 1 } : World) b n L:=hst
   have hb4 : Go.RowKit.Below w.heap.size w ({ W2 with drawn:=W2.drawn + 1 } : World):=⟨hbw2.os,hbw2.tape,hbw2.output,hbw2.size,hbw2.block⟩
   have hlk4:=look_run hst4 (x:=h) (y:=-(v + 1)) (rng_small (by omega) (by omega))
   clear q0 q1 q2 q3 q4 q5 hlk hst
   generalize ({ W2 with drawn:=W2.drawn + 1 } : World) = W4 at p1 p2 p3 hst4 hb4 hlk4 ⊢
   by_cases h1 : atI L h (-(v + 1)) = s
   ·have h2:=decide_eq_true h1
    repeat still_step
    refine wpStill_nil ?_
    go_wp2_with fail
    refine (ground_at _ hst4 (by omega) (by omega)).mono ?_
    rintro e W5 ⟨rfl,hb5⟩
    go_wp2_with fail
    go_ret
    exact ⟨by rw [h2];rfl,hb4.trans (hb5.mono hb4.size)⟩
   ·have h2:=decide_eq_false h1
    repeat still_step
    refine wpStill_nil ?_
    go_wp2_with fail
    go_ret
    exact ⟨by rw [h2];rfl,hb4⟩
 ·go_enter Tryz.func53,Tryz.ntmps53
  go_wp2_with fail
  refine haf.mono ?_
  rintro e W1 ⟨⟨a,b',rfl,hab⟩,hb1⟩
  have hm : mayC L h v k s = false:=by unfold mayC;rw [decide_eq_false he]
  go_wp2_with fail
  go_ret
  exact ⟨by rw [hm];rfl,hb0.trans (hb1.mono (Nat.le_of_lt hs0))⟩
end Go.Proofs.YtpffkpaiihcffaaGreatDoor
end
section
namespace Go.Proofs.YtpffkpaiihcffaaGreatDoor
open Go Go.Proofs Go.Proofs.YtpffkpaiihcffaaGreatDoor.VM Go.RowKit Go.Shelf Go.Maps Go.Lib Go.ChangeMaps
def WorldPost (ms : List Mv) (cs : List Cel) (w : World) (e : Ending) (w' : World) : Prop :=
 ∃ v,e = .returned (.tuple #[.int .i64 (worldR ms cs).1,.int .i64 (worldR ms cs).2.1,v,.int .i64 (worldR ms cs).2.2.2.1,.int .i64 (worldR ms cs).2.2.2.2]) ∧ CellsAt w' w.heap.size v (worldR ms cs).2.2.1 ∧ Go.RowKit.Below w.heap.size w w'
theorem site_proper {cs : List Cel} (h : ¬ properC cs = 0) : siteE cs = properC cs:=by unfold siteE;rw [decide_eq_false h]
theorem site_quiet {cs : List Cel} (h : properC cs = 0) (q : (cs.all fun c => quietC c.2.2) = false) : siteE cs = 82:=by unfold siteE;rw [decide_eq_true h,q]
def spanA (cs : List Cel) : Bool:=cs.all fun c => !(decide (c.2.1 = 0) || (decide (c.2.1 = 1) || decide (c.1 < 2)))
theorem spanA_cons (c : Cel) (l : List Cel) : spanA (c :: l) = (!(decide (c.2.1 = 0) || (decide (c.2.1 = 1) || decide (c.1 < 2))) && spanA l):=by simp only [spanA,List.all_cons]
theorem site_span {cs : List Cel} (h : properC cs = 0) (q : (cs.all fun c => quietC c.2.2) = true) (s : spanA cs = false) : siteE cs = 81:=by unfold siteE;unfold spanA at s;rw [decide_eq_true h,q,s]
theorem site_none {cs : List Cel} (h : properC cs = 0) (q : (cs.all fun c => quietC c.2.2) = true) (s : spanA cs = true) : siteE cs = 0:=by unfold siteE;unfold spanA at s;rw [decide_eq_true h,q,s]
theorem worldR_bad {ms : List Mv} {cs : List Cel} (h : ¬ siteE cs = 0) : worldR ms cs = (0,0,[],0,siteE cs):=by unfold worldR;rw [decide_eq_false h]
theorem go_step {k s : Int} {t : List Mv} {h v : Int} {L : List Cel} {j : Nat} (hz : (decide (k = 0) && decide (s = 0)) = false) (hm : mayC L h v k s = true) : goW ((k,s) :: t) h v L (j : Int) = goW t (toH h k) (toV v k) (doC L h v k s) ((j + 1 : Nat) : Int):=by
 simp only [goW,hz,hm]
 rfl
theorem go_stop {k s : Int} {t : List Mv} {h v : Int} {L : List Cel} {j : Int} (hz : (decide (k = 0) && decide (s = 0)) = false) (hm : mayC L h v k s = false) : goW ((k,s) :: t) h v L j = (h,v,L,j):=by
 simp only [goW,hz,hm]
theorem keep_cell {W W' : World} {B b i : Nat} (h : W.grownBy W' (some B)) (hb : b < W.heap.size) (hne : b ≠ B) : W'.cell? ⟨b,i,none⟩ = W.cell? ⟨b,i,none⟩:=by
 unfold World.cell?
 rw [h.block b hb (fun e => hne (Option.some.inj e))]
theorem cellsAt_nil (w : World) (b : Nat) : CellsAt w b (.slice none 0 0) []:=.inl ⟨rfl,rfl⟩
theorem row_shape3 {W : World} {base e sz n : Nat} {v : Value} {xs : List Value} (h : W.ownsRow base e sz v n xs) : ∃ p cap,v = .slice p n cap:=by
 rcases h.2 with ⟨rfl,rfl⟩ | ⟨g,cap,cur,rfl,_⟩
 ·exact ⟨none,0,rfl⟩
 ·exact ⟨_,cap,rfl⟩
theorem row_kept3 {W W' : World} {base e sz n : Nat} {v : Value} {xs : List Value} (h : W.ownsRow base e sz v n xs) (hb : ∀ b,v.ownBlock = some b → W'.heap[b]? = W.heap[b]?) : W'.ownsRow base e sz v n xs:=by
 refine ⟨h.1,?_⟩
 rcases h.2 with h0 | ⟨g,cap,cur,rfl,h1,h2,h3⟩
 ·exact .inl h0
 ·exact .inr ⟨g,cap,cur,rfl,h1,(hb g rfl).trans h2,h3⟩
theorem row_lt3 {W : World} {base e sz n : Nat} {v : Value} {xs : List Value} (h : W.ownsRow base e sz v n xs) {b : Nat} (hb : v.ownBlock = some b) : b < W.heap.size:=by
 rcases h.2 with ⟨rfl,_⟩ | ⟨g,cap,cur,rfl,h1,h2,h3⟩
 ·simp [Value.ownBlock] at hb
 ·simp only [Value.ownBlock,Option.some.injEq] at hb
  subst hb
  exact (Array.getElem?_eq_some_iff.1 h2).1
theorem row_base3 {W : World} {base e sz n : Nat} {v : Value} {xs : List Value} (h : W.ownsRow base e sz v n xs) {b : Nat} (hb : v.ownBlock = some b) : base ≤ b:=by
 rcases h.2 with ⟨rfl,_⟩ | ⟨g,cap,cur,rfl,h1,_⟩
 ·simp [Value.ownBlock] at hb
 ·simp only [Value.ownBlock,Option.some.injEq] at hb
  omega
theorem flat3 : ∀ (l : List Cel) (i : Nat) (c : Cel),l[i]? = some c → (l.flatMap encK)[i * 3]? = some (.int .i64 c.1) ∧ (l.flatMap encK)[i * 3 + 1]? = some (.int .i64 c.2.1) ∧ (l.flatMap encK)[i * 3 + 2]? = some (.int .i64 c.2.2)
 | [],i,c,h => by simp at h
 | d :: l,0,c,h => by cases h;exact ⟨rfl,rfl,rfl⟩
 | d :: l,i + 1,c,h => by
  have ih:=flat3 l i c (by simpa using h)
  have e : (d :: l).flatMap encK = encK d ++ l.flatMap encK:=rfl
  have hl : (encK d).length = 3:=rfl
  rw [e,show (i + 1) * 3 = 3 + i * 3 by omega]
  refine ⟨?_,?_,?_⟩
  ·rw [List.getElem?_append_right (by omega),hl,show 3 + i * 3 - 3 = i * 3 by omega];exact ih.1
  ·rw [List.getElem?_append_right (by omega),hl,show 3 + i * 3 + 1 - 3 = i * 3 + 1 by omega];exact ih.2.1
  ·rw [List.getElem?_append_right (by omega),hl,show 3 + i * 3 + 2 - 3 = i * 3 + 2 by omega];exact ih.2.2
theorem cellsR_row {W : World} {base : Nat} {v : Value} {ps : List Cel} {A : Nat → Prop} (h : W.ownsRow base 53 3 v ps.length (ps.flatMap encK)) (hA : ∀ b,b < W.heap.size → A b) : CellsR W A v ps:=by
 cases ps with
 | nil =>
  rcases h.2 with ⟨rfl,_⟩ | ⟨g,cap,cur,rfl,_⟩
  ·exact .inl ⟨_,_,rfl,rfl⟩
  ·exact .inl ⟨_,_,rfl,rfl⟩
 | cons c0 l =>
  rcases h.2 with ⟨rfl,h0⟩ | ⟨g,cap,cur,rfl,h1,h2,h3,h4,h5,h6⟩
  ·simp at h0
  ·refine .inr ⟨g,0,cap,rfl,hA g (Array.getElem?_eq_some_iff.1 h2).1,h3,fun i c hi => ?_⟩
   have hlt:=(List.getElem?_eq_some_iff.1 hi).1
   obtain ⟨f0,f1,f2⟩:=flat3 _ _ _ hi
   have get : ∀ j,j < (c0 :: l).length * 3 → W.cell? ⟨g,j,none⟩ = ((c0 :: l).flatMap encK)[j]?:=fun j hj => by
    rw [← h6,List.getElem?_take,if_pos hj,cell_box h2]
    simp
   rw [show 0 + i * 3 = i * 3 by omega]
   exact ⟨(get _ (by omega)).trans f0,(get _ (by omega)).trans f1,(get _ (by omega)).trans f2⟩
theorem worldR_good {ms : List Mv} {cs : List Cel} {hh vv nn : Int} {L : List Cel} (h : siteE cs = 0) (g : goW ms 2 (-1) (lastC cs) 0 = (hh,vv,L,nn)) : worldR ms cs = (hh,vv,(canR L).2,nn,(canR L).1):=by
 unfold worldR;rw [decide_eq_true h,g]
set_option maxHeartbeats 4000000 in
set_option maxRecDepth 100000 in
theorem world_walk {A : Nat → Prop} (w : World) (hA : ∀ b,A b → b < w.heap.size) (gl : GlobR w A) {lv pv : Value} {ms : List Mv} {cs : List Cel} (hl : MovesR w A lv ms) (hx : FR w A (.arr (cs.map cellF)) pv) (h1 : pv.oneCell' = true) (hp : CellsR w A pv cs) (hm : ms.length ≤ 100000) (hn : cs.length ≤ 100000) :
  Calls Tryz.prog 26 #[lv,pv] w (WorldPost ms cs w):=by
 have hmk:=@run_makeMap Tryz.prog
 have hmv:=eq_move
 have ext : ∀ {W : World},Go.RowKit.Below w.heap.size w W → (∀ b,A b → b < W.heap.size) ∧ GlobR W A:=fun {W} h => ⟨fun b hb => Nat.lt_of_lt_of_le (hA b hb) h.size,gl.mono ⟨fun _ h => h,fun b hb => h.block b (hA b hb)⟩⟩
 have hsp:=space_at w
 obtain ⟨p,cap,rfl,hcells⟩:=hp.any
 obtain ⟨pl,capl,rfl,hmoves⟩:=hl
 have HCELLS:=Lib.hid hcells
 have HMOVES:=Lib.hid hmoves
 clear hcells hp hmoves
 go_enter Tryz.func26,Tryz.ntmps26
 go_wp2_with fail
 refine hsp.mono ?_
 rintro e Ws ⟨rfl,hbs⟩
 have hpr:=proper_calls (ext hbs).1 (ext hbs).2 (hx.mono ⟨fun _ h => h,fun b hb => hbs.block b (hA b hb)⟩) h1 (by omega : cs.length ≤ 1000000)
 go_wp2_with fail
 refine hpr.mono ?_
 rintro e W1 ⟨rfl,hb1⟩
 have hbw1 : Go.RowKit.Below w.heap.size w W1:=hbs.trans (hb1.mono hbs.size)
 clear hpr hb1 hbs hsp
 by_cases hpp : properC cs = 0
 ·rw [hpp]
  have HP:=Lib.hid hpp
  clear hpp
  go_wp2_with fail
  obtain ⟨Wm,hWm⟩ : ∃ Wm,Wm = W1.alloc (.map #[] 0):=⟨_,rfl⟩
  have hsm : SiteIs Wm W1.heap.size 0 []:=by rw [hWm];exact SiteIs.made W1
  have hbm : Go.RowKit.Below w.heap.size w Wm:=by rw [hWm];exact hbw1.trans ((Go.RowKit.Below.refl _ W1).alloc hbw1.size _)
  have hbW : W1.heap.size < Wm.heap.size:=by rw [hWm];simp
  rw [← hWm]
  have HWM:=Lib.hid hWm
  clear hWm
  go_loopw [32,7] (fun iv s7 wr => ∃ k : Nat,iv = .int .i64 k ∧ s7 = .int .i64 0 ∧ k ≤ cs.length ∧ (cs.all fun c => quietC c.2.2) = ((cs.drop k).all fun c => quietC c.2.2) ∧ SiteIs wr W1.heap.size 0 [] ∧ W1.heap.size < wr.heap.size ∧ Go.RowKit.Below w.heap.size w wr) (fun iv _ _ => cs.length - (intOf iv).toNat)
  case atStart => exact ⟨0,rfl,rfl,Nat.zero_le _,rfl,hsm,hbW,hbm⟩
  case round =>
   obtain ⟨k,rfl,rfl,hk,hq,hsr,hbr,hbw⟩:=hrel
   by_cases hlt : k < cs.length
   ·obtain ⟨c1,c2,c3,hc⟩ : ∃ c1 c2 c3 : Int,cs[k]? = some (c1,c2,c3):=⟨_,_,_,List.getElem?_eq_getElem hlt⟩
    obtain ⟨b,o,rfl,hAb,f0,f1,f2⟩:=HCELLS.out k _ hc
    have hbl:=hA b hAb
    have e0 : wr.cell? ⟨b,o + k * 3,none⟩ = some (.int .i64 c1):=(hbw.cell (p:=⟨b,o + k * 3,none⟩) hbl).trans f0
    have e1 : wr.cell? ⟨b,o + k * 3 + 1,none⟩ = some (.int .i64 c2):=(hbw.cell (p:=⟨b,o + k * 3 + 1,none⟩) hbl).trans f1
    have e2 : wr.cell? ⟨b,o + k * 3 + 2,none⟩ = some (.int .i64 c3):=(hbw.cell (p:=⟨b,o + k * 3 + 2,none⟩) hbl).trans f2
    have hal:=(Go.RowKit.Below.refl wr.heap.size wr).alloc (Nat.le_refl _) (.cells #[.int .i64 c1,.int .i64 c2,.int .i64 c3] 53)
    have hbox : Go.RowKit.Below w.heap.size w (wr.alloc (.cells #[.int .i64 c1,.int .i64 c2,.int .i64 c3] 53)):=hbw.trans (hal.mono hbw.size)
    have hs2 : SiteIs (wr.alloc (.cells #[.int .i64 c1,.int .i64 c2,.int .i64 c3] 53)) W1.heap.size 0 []:=hsr.kept hal.size (hal.block _ hbr)
    have hbx : W1.heap.size < (wr.alloc (.cells #[.int .i64 c1,.int .i64 c2,.int .i64 c3] 53)).heap.size:=Nat.lt_of_lt_of_le hbr hal.size
    have hwd:=word_calls (ext hbox).1 (ext hbox).2 c3
    have HC:=Lib.hid hc
    have HQ:=Lib.hid hq
    have hdrop : cs.drop k = (c1,c2,c3) :: cs.drop (k + 1):=by
     rw [List.drop_eq_getElem_cons hlt]
     congr 1
     have:=HC.out
     rw [List.getElem?_eq_getElem hlt] at this
     exact Option.some.inj this
    have HD:=Lib.hid hdrop
    clear f0 f1 f2 hc hdrop hsr hq hal
    cases hqc : quietC c3 with
    | false =>
     rw [hqc] at hwd
     have hsq:=site_quiet HP.out (by rw [HQ.out,HD.out];simp [hqc])
     have HR:=Lib.hid (worldR_bad (ms:=ms) (cs:=cs) (by rw [hsq];decide))
     rw [hsq] at HR
     clear hsq
     go_wp2_with fail
     refine hwd.mono ?_
     rintro e W3 ⟨⟨str,rfl⟩,hb3⟩
     go_wp2_with fail
     refine bodyPost_ret (v:=.tuple #[.int .i64 0,.int .i64 0,.slice none 0 0,.int .i64 0,.int .i64 82]) (by simp [results,Tryz.results26,go_sem]) rfl ?_
     exact ⟨_,by rw [HR.out],by rw [HR.out];exact cellsAt_nil _ _,hbox.trans (hb3.mono hbox.size)⟩
    | true =>
     rw [hqc] at hwd
     have HQC:=Lib.hid hqc
     clear hqc
     go_wp2_with fail
     refine hwd.mono ?_
     rintro e W3 ⟨⟨str,rfl⟩,hb3⟩
     go_wp2_with fail
     refine ⟨⟨k + 1,by go_num,rfl,by omega,?_,hs2.kept hb3.size (hb3.block _ hbx),Nat.lt_of_lt_of_le hbx hb3.size,hbox.trans (hb3.mono hbox.size)⟩,by simp [intOf];omega⟩
     rw [HQ.out,HD.out]
     simp [HQC.out]
   ·have hkl : k = cs.length:=by omega
    subst hkl
    rw [List.drop_length] at hq
    have HQ:=Lib.hid (show (cs.all fun c => quietC c.2.2) = true by rw [hq];rfl)
    clear hq
    have HFIT:=Lib.hid (proper_fit HP.out).1
    have hsW : w.heap.size ≤ W1.heap.size:=hbw1.size
    clear hsm hbm hbW
    go_wp2_with fail
    obtain ⟨Wn,hWn⟩ : ∃ Wn,Wn = wr:=⟨_,rfl⟩
    rw [← hWn] at hsr hbr hbw
    go_loopw [47,7] (fun iv s7 wr => ∃ k : Nat,iv = .int .i64 k ∧ s7 = .int .i64 0 ∧ k ≤ cs.length ∧ spanA cs = spanA (cs.drop k) ∧ SiteIs wr W1.heap.size k (lastC (cs.take k)) ∧ W1.heap.size < wr.heap.size ∧ Go.RowKit.Below w.heap.size w wr) (fun iv _ _ => cs.length - (intOf iv).toNat)
    case atStart => exact ⟨0,rfl,rfl,Nat.zero_le _,rfl,by rw [← hWn];exact hsr,by rw [← hWn];exact hbr,by rw [← hWn];exact hbw⟩
    case round =>
     clear hsr hbr hbw
     obtain ⟨k,rfl,rfl,hk,hq,hsr,hbr,hbw⟩:=hrel
     by_cases hlt : k < cs.length
     ·obtain ⟨c1,c2,c3,hc⟩ : ∃ c1 c2 c3 : Int,cs[k]? = some (c1,c2,c3):=⟨_,_,_,List.getElem?_eq_getElem hlt⟩
      obtain ⟨b,o,rfl,hAb,f0,f1,f2⟩:=HCELLS.out k _ hc
      have hbl:=hA b hAb
      have e0 : wr.cell? ⟨b,o + k * 3,none⟩ = some (.int .i64 c1):=(hbw.cell (p:=⟨b,o + k * 3,none⟩) hbl).trans f0
      have e1 : wr.cell? ⟨b,o + k * 3 + 1,none⟩ = some (.int .i64 c2):=(hbw.cell (p:=⟨b,o + k * 3 + 1,none⟩) hbl).trans f1
      have e2 : wr.cell? ⟨b,o + k * 3 + 2,none⟩ = some (.int .i64 c3):=(hbw.cell (p:=⟨b,o + k * 3 + 2,none⟩) hbl).trans f2
      have hal:=(Go.RowKit.Below.refl wr.heap.size wr).alloc (Nat.le_refl _) (.cells #[.int .i64 c1,.int .i64 c2,.int .i64 c3] 53)
      have hbox : Go.RowKit.Below w.heap.size w (wr.alloc (.cells #[.int .i64 c1,.int .i64 c2,.int .i64 c3] 53)):=hbw.trans (hal.mono hbw.size)
      have hs2 : SiteIs (wr.alloc (.cells #[.int .i64 c1,.int .i64 c2,.int .i64 c3] 53)) W1.heap.size k (lastC (cs.take k)):=hsr.kept hal.size (hal.block _ hbr)
      have hbx : W1.heap.size < (wr.alloc (.cells #[.int .i64 c1,.int .i64 c2,.int .i64 c3] 53)).heap.size:=Nat.lt_of_lt_of_le hbr hal.size
      have HC:=Lib.hid hc
      have HQ2:=Lib.hid hq
      have hdrop : cs.drop k = (c1,c2,c3) :: cs.drop (k + 1):=by
       rw [List.drop_eq_getElem_cons hlt]
       congr 1
       have:=HC.out
       rw [List.getElem?_eq_getElem hlt] at this
       exact Option.some.inj this
      have HD:=Lib.hid hdrop
      obtain ⟨hfar,hstate⟩:=HFIT.out _ (List.mem_of_getElem? hc)
      have hR : Rng (c1,c2,c3):=far_rng hfar
      have hkey:=Lib.hid (keyOf_cell hR)
      have hwf : (Lit.int .i64 c3).wf = true:=by
       simp only [stateC,Bool.and_eq_true,decide_eq_true_eq] at hstate
       simp [Lit.wf,IntKind.min,IntKind.max,IntKind.bits,IntKind.signed];omega
      have HWF:=Lib.hid hwf
      clear f0 f1 f2 hc hdrop hsr hq hal hfar hstate hwf
      by_cases hbad : c2 = 0 ∨ c2 = 1 ∨ c1 < 2
      ·have hsq:=site_span HP.out HQ.out (by
        rw [HQ2.out,HD.out,spanA_cons]
        rcases hbad with h | h | h <;> simp [h])
       have HR:=Lib.hid (worldR_bad (ms:=ms) (cs:=cs) (by rw [hsq];decide))
       rw [hsq] at HR
       have fin : ∀ {Wz : World},Go.RowKit.Below w.heap.size w Wz → WorldPost ms cs w (.returned (.tuple #[.int .i64 0,.int .i64 0,.slice none 0 0,.int .i64 0,.int .i64 81])) Wz:=fun h => ⟨_,by rw [HR.out],by rw [HR.out];exact cellsAt_nil _ _,h⟩
       clear hsq
       by_cases n0 : c2 = 0
       ·subst n0
        go_wp2_with fail
        exact bodyPost_ret (v:=.tuple #[.int .i64 0,.int .i64 0,.slice none 0 0,.int .i64 0,.int .i64 81]) (by simp [results,Tryz.results26,go_sem]) rfl (fin hbox)
       ·by_cases n1 : c2 = 1
        ·subst n1
         go_wp2_with fail
         exact bodyPost_ret (v:=.tuple #[.int .i64 0,.int .i64 0,.slice none 0 0,.int .i64 0,.int .i64 81]) (by simp [results,Tryz.results26,go_sem]) rfl (fin hbox)
        ·have n2 : c1 < 2:=by omega
         go_wp2_with fail
         exact bodyPost_ret (v:=.tuple #[.int .i64 0,.int .i64 0,.slice none 0 0,.int .i64 0,.int .i64 81]) (by simp [results,Tryz.results26,go_sem]) rfl (fin hbox)
      ·have n0 : ¬ c2 = 0:=by omega
       have n1 : ¬ c2 = 1:=by omega
       have n2 : ¬ c1 < 2:=by omega
       obtain ⟨es,ho,hperm,hrng,hap⟩:=hs2
       have HPERM:=Lib.hid hperm
       have HRNG:=Lib.hid hrng
       have HAP:=Lib.hid hap
       clear hbad hperm hrng hap
       go_wp2_with (first
        | (at_mapUpdate;refine wpList_mapUpdate_own _ rfl _ _ _ 98 rfl 101 3 keyed101 Tryz.underlying98 intR W1.heap.size k (.map es) rfl ho (by unfold maxLen;omega) _ _ _ rfl rfl hkey.out (.lit (.int .i64 c3)) [] (intR_mk HWF.out) ?_;intro w4 hown4 hgrow4)
        | go_in)
       ·rename_i hbb
        exact absurd hbb (by simp [n0,n1])
       ·have et : cs.take (k + 1) = cs.take k ++ [(c1,c2,c3)]:=by rw [List.take_add_one,HC.out];rfl
        refine ⟨⟨k + 1,by go_num,rfl,by omega,?_,?_,?_,?_⟩,by simp [intOf];omega⟩
        ·rw [HQ2.out,HD.out,spanA_cons]
         simp [n0,n1,n2]
        ·rw [et,lastC_snoc]
         exact ⟨_,hown4,site_put hR HRNG.out HPERM.out,putC_rng hR HRNG.out,putC_apart HAP.out _⟩
        ·exact Nat.lt_of_lt_of_le hbx hgrow4.size
        ·exact hbox.grown hgrow4 hbox.size (fun j e => by cases e;exact hsW)
     ·have hkl : k = cs.length:=by omega
      subst hkl
      rw [List.drop_length,show spanA ([] : List Cel) = true from rfl] at hq
      rw [List.take_length] at hsr
      have HS:=Lib.hid (site_none HP.out HQ.out hq)
      have HSR:=Lib.hid hsr
      clear hq hsr
      obtain ⟨Wq,hWq⟩ : ∃ Wq,Wq = wr:=⟨_,rfl⟩
      rw [← hWq] at hbr hbw HSR
      go_upto_block 4 with fail
      go_cut [4,5,7] (fun s4 s5 s7 wx => ∃ (hh vv : Int) (L : List Cel) (nn : Int) (n : Nat),s4 = .int .i64 hh ∧ s5 = .int .i64 vv ∧ s7 = .int .i64 nn ∧ goW ms 2 (-1) (lastC cs) 0 = (hh,vv,L,nn) ∧ FitC L ∧ n ≤ 300000 ∧ SiteIs wx W1.heap.size n L ∧ W1.heap.size < wx.heap.size ∧ Go.RowKit.Below w.heap.size w wx)
      case first =>
       go_wp2
       go_loopw [75,4,5,7] (fun iv s4 s5 s7 wx => ∃ (j : Nat) (hh vv : Int) (L : List Cel) (n : Nat),iv = .int .i64 j ∧ s4 = .int .i64 hh ∧ s5 = .int .i64 vv ∧ s7 = .int .i64 j ∧ j ≤ ms.length ∧ goW ms 2 (-1) (lastC cs) 0 = goW (ms.drop j) hh vv L j ∧ okA hh vv = true ∧ FitC L ∧ n ≤ 100000 + j ∧ SiteIs wx W1.heap.size n L ∧ W1.heap.size < wx.heap.size ∧ Go.RowKit.Below w.heap.size w wx) (fun iv _ _ _ _ => ms.length - (intOf iv).toNat)
       case atStart => exact ⟨0,2,-1,lastC cs,cs.length,rfl,rfl,rfl,rfl,Nat.zero_le _,rfl,by decide,fun c hc => HFIT.out c ((lastC_same (ord_apart (proper_fit HP.out).2.2.1) c).1 hc),by omega,by rw [← hWq];exact HSR.out,by rw [← hWq];exact hbr,by rw [← hWq];exact hbw⟩
       case round =>
        clear hbr hbw
        obtain ⟨j,hh,vv,L,n,rfl,rfl,rfl,rfl,hj,hgo,hok,hfit,hnn,hsr,hbr,hbw⟩:=hrel
        by_cases hlt : j < ms.length
        ·obtain ⟨k,s,hc⟩ : ∃ k s : Int,ms[j]? = some (k,s):=⟨_,_,List.getElem?_eq_getElem hlt⟩
         obtain ⟨b,o,rfl,hAb,f0,f1⟩:=HMOVES.out j _ hc
         have hbl:=hA b hAb
         have e0 : wr.cell? ⟨b,o + j * 2,none⟩ = some (.int .i64 k):=(hbw.cell (p:=⟨b,o + j * 2,none⟩) hbl).trans f0
         have e1 : wr.cell? ⟨b,o + j * 2 + 1,none⟩ = some (.int .i64 s):=(hbw.cell (p:=⟨b,o + j * 2 + 1,none⟩) hbl).trans f1
         have hal:=(Go.RowKit.Below.refl wr.heap.size wr).alloc (Nat.le_refl _) (.cells #[.int .i64 k,.int .i64 s] 23)
         have hbox : Go.RowKit.Below w.heap.size w (wr.alloc (.cells #[.int .i64 k,.int .i64 s] 23)):=hbw.trans (hal.mono hbw.size)
         have hs2 : SiteIs (wr.alloc (.cells #[.int .i64 k,.int .i64 s] 23)) W1.heap.size n L:=hsr.kept hal.size (hal.block _ hbr)
         have hbx : W1.heap.size < (wr.alloc (.cells #[.int .i64 k,.int .i64 s] 23)).heap.size:=Nat.lt_of_lt_of_le hbr hal.size
         have hmay:=may_walk _ (ext hbox).1 (ext hbox).2 hs2 hh vv k s
         have m0 : (wr.alloc (.cells #[.int .i64 k,.int .i64 s] 23)).cell? ⟨wr.heap.size,0,none⟩ = some (.int .i64 k):=by simp
         have m1 : (wr.alloc (.cells #[.int .i64 k,.int .i64 s] 23)).cell? ⟨wr.heap.size,1,none⟩ = some (.int .i64 s):=by simp
         have hmb : wr.heap.size < (wr.alloc (.cells #[.int .i64 k,.int .i64 s] 23)).heap.size:=by simp
         have hwr : w.heap.size ≤ wr.heap.size:=hbw.size
         have hbrw:=hbr
         have HC:=Lib.hid hc
         have hdrop : ms.drop j = (k,s) :: ms.drop (j + 1):=by
          rw [List.drop_eq_getElem_cons hlt]
          congr 1
          have:=HC.out
          rw [List.getElem?_eq_getElem hlt] at this
          exact Option.some.inj this
         have HG:=Lib.hid (hgo.trans (by rw [hdrop]))
         have HO:=Lib.hid hok
         have HF:=Lib.hid hfit
         clear f0 f1 hc hdrop hgo hsr hal hok hfit hbr hbw
         by_cases hz : k = 0 ∧ s = 0
         ·obtain ⟨rfl,rfl⟩:=hz
          clear hmay
          go_wp2_with fail
          refine ⟨⟨j + 1,hh,vv,L,n,by go_num,rfl,rfl,by go_num,by omega,?_,HO.out,HF.out,by omega,hs2,hbx,hbox⟩,by simp [intOf];omega⟩
          rw [HG.out]
          rfl
         ·have hzz : (decide (k = 0) && decide (s = 0)) = false:=by
           rw [← Bool.not_eq_true,Bool.and_eq_true,decide_eq_true_eq,decide_eq_true_eq];exact hz
          have HZ:=Lib.hid hzz
          clear hzz
          cases hmc : mayC L hh vv k s with
          | false =>
           rw [hmc] at hmay
           have HM:=Lib.hid hmc
           clear hmc
           go_wp2_with fail
           ·refine hmay.mono ?_
            rintro e W3 ⟨rfl,hb3⟩
            go_wp2_with fail
            go_meet
            exact ⟨hh,vv,L,_,n,rfl,rfl,rfl,HG.out.trans (go_stop HZ.out HM.out),HF.out,by omega,hs2.kept hb3.size (hb3.block _ hbx),Nat.lt_of_lt_of_le hbx hb3.size,hbox.trans (hb3.mono hbox.size)⟩
           ·rename_i hbb
            simp at hbb
            exact absurd hbb hz
          | true =>
           rw [hmc] at hmay
           have HM:=Lib.hid hmc
           have HE:=Lib.hid (may_err hmc)
           have HK:=Lib.hid (err_kinds (may_err hmc))
           clear hmc
           go_wp2_with fail
           ·refine hmay.mono ?_
            rintro e W3 ⟨rfl,hb3⟩
            obtain ⟨e1,e2,e3,e4,e5,e6⟩:=HK.out
            have HO4:=Lib.hid e4
            simp only [okA,Bool.and_eq_true,decide_eq_true_eq] at e1
            have x0 : W3.cell? ⟨wr.heap.size,0,none⟩ = some (.int .i64 k):=(hb3.cell (p:=⟨wr.heap.size,0,none⟩) hmb).trans m0
            have x1 : W3.cell? ⟨wr.heap.size,1,none⟩ = some (.int .i64 s):=(hb3.cell (p:=⟨wr.heap.size,1,none⟩) hmb).trans m1
            have hmb3 : wr.heap.size < W3.heap.size:=Nat.lt_of_lt_of_le hmb hb3.size
            have hbx3 : W1.heap.size < W3.heap.size:=Nat.lt_of_lt_of_le hbx hb3.size
            have hs3 : SiteIs W3 W1.heap.size n L:=hs2.kept hb3.size (hb3.block _ hbx)
            have hbox3 : Go.RowKit.Below w.heap.size w W3:=hbox.trans (hb3.mono hbox.size)
            have hal3:=(Go.RowKit.Below.refl W3.heap.size W3).alloc (Nat.le_refl _) (.cells #[.int .i64 hh,.int .i64 (-(vv + 1))] 101)
            have y0:=(hal3.cell (p:=⟨wr.heap.size,0,none⟩) hmb3).trans x0
            have y1:=(hal3.cell (p:=⟨wr.heap.size,1,none⟩) hmb3).trans x1
            have y2 : (W3.alloc (.cells #[.int .i64 hh,.int .i64 (-(vv + 1))] 101)).cell? ⟨W3.heap.size,0,none⟩ = some (.int .i64 hh):=by simp
            have y3 : (W3.alloc (.cells #[.int .i64 hh,.int .i64 (-(vv + 1))] 101)).cell? ⟨W3.heap.size,1,none⟩ = some (.int .i64 (-(vv + 1))):=by simp
            have hs4 : SiteIs (W3.alloc (.cells #[.int .i64 hh,.int .i64 (-(vv + 1))] 101)) W1.heap.size n L:=hs3.kept hal3.size (hal3.block _ hbx3)
            have hbox4 : Go.RowKit.Below w.heap.size w (W3.alloc (.cells #[.int .i64 hh,.int .i64 (-(vv + 1))] 101)):=hbox3.trans (hal3.mono hbox3.size)
            have hbx4 : W1.heap.size < (W3.alloc (.cells #[.int .i64 hh,.int .i64 (-(vv + 1))] 101)).heap.size:=Nat.lt_of_lt_of_le hbx3 hal3.size
            have hmb4 : wr.heap.size < (W3.alloc (.cells #[.int .i64 hh,.int .i64 (-(vv + 1))] 101)).heap.size:=Nat.lt_of_lt_of_le hmb3 hal3.size
            have hne : wr.heap.size ≠ W1.heap.size:=Nat.ne_of_gt hbrw
            clear m0 m1 x0 x1 hs2 hs3 hal3 hb3 hbx hmb hbox hmay
            by_cases h7 : k = 7
            ·subst h7
             obtain ⟨es,ho,hperm,hrng,hap⟩:=hs4
             have HPERM:=Lib.hid hperm
             have HRNG:=Lib.hid hrng
             have HAP:=Lib.hid hap
             have hR : Rng (hh,-(vv + 1),s):=rng_small (by omega) (by omega)
             have hkey:=Lib.hid (keyOf_cell hR)
             have hq : quietC s = true:=by
              unfold rgtA at e2
              rw [if_pos (.inl rfl)] at e2
              exact e2
             have HWF : Hid ((Lit.int .i64 s).wf = true):=Lib.hid (by
              simp only [quietC,Bool.or_eq_true,decide_eq_true_eq] at hq
              simp [Lit.wf,IntKind.min,IntKind.max,IntKind.bits,IntKind.signed];omega)
             clear hperm hrng hap hq e2 e3 e4
             go_wp2_with (first
              | (at_mapUpdate;refine wpList_mapUpdate_own _ rfl _ _ _ 98 rfl 101 3 keyed101 Tryz.underlying98 intR W1.heap.size n (.map es) rfl ho (by unfold maxLen;omega) _ _ _ rfl rfl hkey.out (.lit (.int .i64 s)) [] (intR_mk HWF.out) ?_;intro w4 hown4 hgrow4
                 have z0:=(keep_cell hgrow4 hmb4 hne).trans y0
                 have z1:=(keep_cell hgrow4 hmb4 hne).trans y1
                 have hbox5 : Go.RowKit.Below w.heap.size w w4:=hbox4.grown hgrow4 hbox4.size (fun j e => by cases e;exact hsW)
                 have haf:=after_calls (ext hbox5).1 (ext hbox5).2 hh vv 7 s)
              | fail)
             refine haf.mono ?_
             rintro e W5 ⟨⟨a,b',rfl,hab⟩,hb5⟩
             rw [(hab HE.out).1,(hab HE.out).2]
             clear hab
             go_wp2_with fail
             have hs5 : SiteIs w4 W1.heap.size (n + 1) (doC L hh vv 7 s):=⟨_,hown4,site_put hR HRNG.out HPERM.out,putC_rng hR HRNG.out,putC_apart HAP.out _⟩
             have hbx5 : W1.heap.size < w4.heap.size:=Nat.lt_of_lt_of_le hbx4 hgrow4.size
             refine ⟨⟨j + 1,_,_,_,n + 1,by go_num,rfl,rfl,by go_num,by omega,?_,HO4.out,do_fit HF.out HE.out,by omega,hs5.kept hb5.size (hb5.block _ hbx5),Nat.lt_of_lt_of_le hbx5 hb5.size,hbox5.trans (hb5.mono hbox5.size)⟩,by simp [intOf];omega⟩
             rw [HG.out,go_step HZ.out HM.out]
            ·by_cases h8 : k = 8
             ·subst h8
              obtain ⟨es,ho,hperm,hrng,hap⟩:=hs4
              have HPERM:=Lib.hid hperm
              have HRNG:=Lib.hid hrng
              have HAP:=Lib.hid hap
              have hR : Rng (hh,-(vv + 1),0):=rng_small (by omega) (by omega)
              have hkey:=Lib.hid (keyOf_cell hR)
              clear hperm hrng hap e2 e3 e4
              go_wp2_with (first
               | (at_delete;refine wpList_delete_own _ rfl _ _ 98 101 rfl 3 keyed101 Tryz.underlying98 intR W1.heap.size n (.map es) rfl ho _ _ rfl hkey.out ?_;intro w4 hown4 hturn4
                  have hgrow4:=hturn4.grown
                  have z0:=(keep_cell hgrow4 hmb4 hne).trans y0
                  have z1:=(keep_cell hgrow4 hmb4 hne).trans y1
                  have hbox5 : Go.RowKit.Below w.heap.size w w4:=hbox4.grown hgrow4 hbox4.size (fun j e => by cases e;exact hsW)
                  have haf:=after_calls (ext hbox5).1 (ext hbox5).2 hh vv 8 s)
               | fail)
              refine haf.mono ?_
              rintro e W5 ⟨⟨a,b',rfl,hab⟩,hb5⟩
              rw [(hab HE.out).1,(hab HE.out).2]
              clear hab
              go_wp2_with fail
              have hs5 : SiteIs w4 W1.heap.size n (doC L hh vv 8 s):=⟨_,hown4,site_del hR HRNG.out HPERM.out,delC_rng HRNG.out,delC_apart HAP.out _⟩
              have hbx5 : W1.heap.size < w4.heap.size:=Nat.lt_of_lt_of_le hbx4 hgrow4.size
              refine ⟨⟨j + 1,_,_,_,n,by go_num,rfl,rfl,by go_num,by omega,?_,HO4.out,do_fit HF.out HE.out,by omega,hs5.kept hb5.size (hb5.block _ hbx5),Nat.lt_of_lt_of_le hbx5 hb5.size,hbox5.trans (hb5.mono hbox5.size)⟩,by simp [intOf];omega⟩
              rw [HG.out,go_step HZ.out HM.out]
             ·have haf:=after_calls (ext hbox4).1 (ext hbox4).2 hh vv k s
              go_wp2_with fail
              refine haf.mono ?_
              rintro e W5 ⟨⟨a,b',rfl,hab⟩,hb5⟩
              rw [(hab HE.out).1,(hab HE.out).2]
              clear hab
              go_wp2_with fail
              refine ⟨⟨j + 1,_,_,L,n,by go_num,rfl,rfl,by go_num,by omega,?_,HO4.out,HF.out,by omega,hs4.kept hb5.size (hb5.block _ hbx4),Nat.lt_of_lt_of_le hbx4 hb5.size,hbox4.trans (hb5.mono hbox4.size)⟩,by simp [intOf];omega⟩
              have hdo : doC L hh vv k s = L:=by unfold doC;rw [decide_eq_false h7,decide_eq_false h8]
              rw [HG.out,go_step HZ.out HM.out,hdo]
           ·rename_i hbb
            simp at hbb
            exact absurd hbb hz
        ·have hjl : j = ms.length:=by omega
         subst hjl
         rw [List.drop_length] at hgo
         have HG:=Lib.hid hgo
         clear hgo
         go_wp2_with fail
         go_meet
         exact ⟨hh,vv,L,_,n,rfl,rfl,rfl,HG.out,hfit,by omega,hsr,hbr,hbw⟩
      case rest =>
       obtain ⟨hh,vv,L,nn,n,rfl,rfl,rfl,hgo,hfit,hnn,hsr,hbr,hbw⟩:=hcut
       have HR:=Lib.hid (worldR_good HS.out hgo)
       have HF:=Lib.hid hfit
       obtain ⟨i0,hi0,hz0,hz1,hz2⟩:=info_parts infoC
       obtain ⟨es,ho,hperm,hrng,hap⟩:=hsr
       have HPERM:=Lib.hid hperm
       have HRNG:=Lib.hid hrng
       have HAP:=Lib.hid hap
       have HEA : Hid (es.Pairwise fun p q => p.1 ≠ q.1):=Lib.hid (ent_apart ho)
       have hlen : es.length ≤ 300000:=by
        have h1:=ho.size_le
        rw [Maps.size_eq] at h1;omega
       clear hperm hrng hap hgo hfit HSR hnn
       go_wp2_with (first
        | (at_range;refine wpList_range_own _ rfl _ 98 rfl 101 3 keyed101 Tryz.underlying98 intR W1.heap.size n _ rfl ho ?_;intro w0 hrg0 hg0 hs0)
        | fail)
       go_frame
       have hbw0 : Go.RowKit.Below w.heap.size w w0:=hbw.grown hg0 hbw.size (fun j e => by cases e)
       go_loopw [20] (fun s20 wx => ∃ (left : Lit → Bool) (cnt : Nat) (ps : List Cel),wx.ranges Tryz.prog 101 intR W1.heap.size wc.heap.size n (.map es) left cnt ∧ ps.length + cnt ≤ es.length ∧ CameI es left ps ∧ wx.ownsRow w0.heap.size 53 3 s20 ps.length (ps.flatMap encK) ∧ w0.heap.size ≤ wx.heap.size ∧ Go.RowKit.Below w.heap.size w wx) (fun _ wx => wx.rangeLeft W1.heap.size wc.heap.size)
       case atStart => exact ⟨_,_,[],hrg0,by simp [Maps.size_eq],CameI.start es,World.ownsRow_nil _ _ _ _,Nat.le_refl _,hbw0⟩
       case round =>
        obtain ⟨left,cnt,ps,hrg,hcs,hC,hrow,hsz,hbx⟩:=hrel
        have HROW:=Lib.hid hrow
        obtain ⟨pv,capv,rfl⟩:=row_shape3 hrow
        clear hrow
        go_wp2_with (first
         | (at_next;refine wpList_next_ranges _ rfl _ rfl 101 keyed101 intR (fun p : Int × Int => .agg #[.int .i64 p.1,.int .i64 p.2]) (fun s : Int => .int .i64 s) (fun key kl hk => by obtain ⟨p,hp,_⟩:=keyOf_inv hk;exact ⟨p,hp⟩) (fun v z hv => by obtain ⟨s,hs,_⟩:=intR_inv hv;exact ⟨s,hs⟩) W1.heap.size wc.heap.size n _ _ _ rfl hrg ?_ ?_)
         | fail)
        ·intro hc0 hl0
         have hall:=Lib.hid (hC.all hl0 HPERM.out HEA.out HRNG.out)
         have hpl : ps.length ≤ 300000:=by omega
         clear hC hrg hrg0 hg0
         go_wp2_with fail
         refine (space_at wr).mono ?_
         rintro e Wt ⟨rfl,hbt⟩
         have hrow3 : Wt.ownsRow w0.heap.size 53 3 (.slice pv ps.length capv) ps.length (ps.flatMap encK):=row_kept3 HROW.out fun b hb => hbt.block b (row_lt3 HROW.out hb)
         have hbw3 : Go.RowKit.Below w.heap.size w Wt:=hbx.trans (hbt.mono hbx.size)
         have hcan:=canon_walk (A:=fun b => b < Wt.heap.size) (x:=.nilS) (rv:=.slice none 0 0) Wt (fun b h => h) (gl.mono ⟨fun b hb => (ext hbw3).1 b hb,fun b hb => hbw3.block b (hA b hb)⟩) (.nilS none) rfl ps (cellsR_row hrow3 (fun b h => h)) (by omega)
         go_wp2_with fail
         refine hcan.mono ?_
         rintro e Wu ⟨z,rfl,hcel,hbu⟩
         have hcr : canonR ps = canR L:=canR_fit HF.out HAP.out hall.out.1 hall.out.2
         have HCR:=Lib.hid hcr
         rw [hcr] at hcel
         rw [hcr]
         clear hcr hcan
         generalize canR L = cr at *
         obtain ⟨cr1,cr2⟩:=cr
         go_wp2_with fail
         refine bodyPost_ret (v:=.tuple #[.int .i64 hh,.int .i64 vv,z,.int .i64 nn,.int .i64 cr1]) (by simp [results,Tryz.results26,go_sem]) rfl ?_
         exact ⟨z,by rw [HR.out],by rw [HR.out];exact hcel.base hbw3.size,hbw3.trans (hbu.mono hbw3.size)⟩
        ·intro x1 x2 c kl yd yp w2 cnt2 hkey hlk hv hat hrg2 hlt hg2 hs2 hen
         obtain ⟨s',hs',hz',_⟩:=intR_inv hv
         have hcs' : s' = c:=by injection hs' with _ h;exact h.symm
         have hyd : yd = .lit (.int .i64 c):=by rw [← hcs'];exact congrArg Prod.fst hz'
         obtain ⟨hkc,hrc⟩:=entry_ofI (es:=es) (L:=L) (p:=(x1,x2)) (s:=c) hkey
         simp only at hkc hrc
         have HC2:=Lib.hid (hC.step hrc (hkc ▸ hlk) (fun zd => by rw [← hkc,hat zd,hyd]))
         have HKC:=Lib.hid hkc
         have HL:=Lib.hid hrg.left_eq
         have hrow2 : w2.ownsRow w0.heap.size 53 3 (.slice pv ps.length capv) ps.length (ps.flatMap encK):=row_kept3 HROW.out fun b hb => hg2.block b (row_lt3 HROW.out hb) (fun e => by have:=row_base3 HROW.out hb;injection e with e;omega)
         have hbx2 : Go.RowKit.Below w.heap.size w w2:=hbx.grown hg2 hbx.size (fun j e => by injection e with e;have:=hbw.size;omega)
         have hsz2 : w0.heap.size ≤ w2.heap.size:=by omega
         have hw02 : w.heap.size ≤ w0.heap.size:=hbw0.size
         have hbWc : W1.heap.size < w0.heap.size:=by omega
         have hrgB:=Lib.hid hrg2
         have HS2:=Lib.hid hs2
         have H3 : Hid (∀ (j : Nat) (u : Value),[Value.int .i64 x1,.int .i64 x2,.int .i64 c][j]? = some u → ((w2.alloc (.cells #[.int .i64 x1,.int .i64 x2] 101)).alloc (.cells #[.int .i64 x1,.int .i64 x2,.int .i64 c] 53)).cell? ((⟨w2.heap.size + 1,0,none⟩ : Addr).add j) = some u):=Lib.hid (by
          have h:=cell_three_new (w2.alloc (.cells #[.int .i64 x1,.int .i64 x2] 101)) (.int .i64 x1) (.int .i64 x2) (.int .i64 c) 53
          rw [show (w2.alloc (.cells #[.int .i64 x1,.int .i64 x2] 101)).heap.size = w2.heap.size + 1 by simp] at h
          exact h)
         clear hs2 hrg2
         clear hv hat hz' hs' hyd hrc hkc hkey hlk hC hrg hrg0 hg0
         go_wp2_with (first
          | (at_builtin;refine wpList_append_own_at _ rfl _ _ 24 rfl w0.heap.size 53 i0 (.agg #[.int .i64 0,.int .i64 0,.int .i64 0]) 3 24 Tryz.underlying24 hi0 hz0 hz1 hz2 rfl (by decide) _ _ _ rfl ((hrow2.alloc (.cells #[.int .i64 x1,.int .i64 x2] 101)).alloc _) ⟨w2.heap.size + 1,0,none⟩ 1 1 [.int .i64 x1,.int .i64 x2,.int .i64 c] rfl rfl H3.out (by simp [Value.oneCell']) (by unfold maxLen;omega) (by omega) (by simp;omega) ?_
             intro v' w3 hown' hgrow hnil hloc)
          | fail)
         have hgrow' : ((w2.alloc (.cells #[.int .i64 x1,.int .i64 x2] 101)).alloc (.cells #[.int .i64 x1,.int .i64 x2,.int .i64 c] 53)).grownBy w3 (Value.slice pv ps.length capv).ownBlock:=hgrow
         have hbx3 : Go.RowKit.Below w.heap.size w w3:=(((hbx2.trans ((Go.RowKit.Below.refl _ w2).alloc hbx2.size _)).trans ((Go.RowKit.Below.refl _ _).alloc (by have:=hbx2.size;simp;omega) _))).grown hgrow' (by have:=hbx2.size;simp;omega) (fun j e => by have:=row_base3 hrow2 e;omega)
         have hne : ∀ b,b < w0.heap.size → some b ≠ (Value.slice pv ps.length capv).ownBlock:=fun b hb e => by have:=row_base3 hrow2 e.symm;omega
         have hrg3:=((hrgB.out.alloc (.cells #[.int .i64 x1,.int .i64 x2] 101)).alloc (.cells #[.int .i64 x1,.int .i64 x2,.int .i64 c] 53)).kept hgrow' (hne _ hbWc) (hne _ (by omega))
         have er : (ps ++ [(x1,x2,c)]).flatMap encK = ps.flatMap encK ++ [.int .i64 x1,.int .i64 x2,.int .i64 c]:=by rw [List.flatMap_append];rfl
         go_roundw
         case rel => exact ⟨_,cnt2,ps ++ [(x1,x2,c)],hrg3,by simp;omega,by rw [HKC.out];exact HC2.out,by rw [er,List.length_append];exact hown',by have:=hgrow'.size;simp at this;omega,hbx3⟩
         case measure => rw [hrg3.left_eq,HL.out];exact hlt
 ·have hs:=site_proper hpp
  have HR:=Lib.hid (worldR_bad (ms:=ms) (cs:=cs) (by rw [hs];exact hpp))
  rw [hs] at HR
  generalize properC cs = pc at *
  go_wp2_with fail
  refine bodyPost_ret (v:=.tuple #[.int .i64 0,.int .i64 0,.slice none 0 0,.int .i64 0,.int .i64 pc]) (by simp [results,Tryz.results26,go_sem]) rfl ?_
  exact ⟨_,by rw [HR.out],by rw [HR.out];exact cellsAt_nil _ _,hbw1⟩
end Go.Proofs.YtpffkpaiihcffaaGreatDoor
end
section
namespace Go.Proofs.YtpffkpaiihcffaaGreatDoor
open Go Go.Proofs Go.Proofs.YtpffkpaiihcffaaGreatDoor.VM Go.RowKit Go.Shelf Go.Lib Go.Sort
theorem worldOv_some {xs : List FV} {y : FV} (h : worldOv xs = some y) : ∃ l p r ms q cs,xs = [l,p] ∧ asRows l = some r ∧ mvsF r = some ms ∧ asRows p = some q ∧ celsF q = some cs ∧ ms.length ≤ 100000 ∧ cs.length ≤ 100000 ∧ y = worldA ms cs:=by
 unfold worldOv at h
 split at h
 ·obtain ⟨r,h1,h⟩:=bindO_some h
  obtain ⟨ms,h2,h⟩:=bindO_some h
  obtain ⟨q,h3,h⟩:=bindO_some h
  obtain ⟨cs,h4,h⟩:=bindO_some h
  obtain ⟨h5,h⟩:=gB_some h
  cases h
  have:=of_decide_eq_true h5
  exact ⟨_,_,r,ms,q,cs,rfl,h1,h2,h3,h4,this.1,this.2,rfl⟩
 ·cases h
end Go.Proofs.YtpffkpaiihcffaaGreatDoor
end
section
namespace Go.Proofs.YtpffkpaiihcffaaGreatDoor
open Go Go.Proofs Go.Proofs.YtpffkpaiihcffaaGreatDoor.VM Go.RowKit Go.Shelf Go.Lib Go.Sort
theorem own_rel {A : Nat → Prop} {w' : World} {base : Nat} {v : Value} {l : List Cel} (h : CellsAt w' base v l) : ∃ obs,OwnedV w' A 3 (.arr (l.map cellF)) v obs ∧ obs.Nodup ∧ ∀ b ∈ obs,base ≤ b:=by
 rcases h with ⟨rfl,rfl⟩ | ⟨g,cap,rfl,hg,hcap,hmax,hH,hlt,hne,cc,hcc,hsz⟩
 ·exact ⟨[],⟨[],rfl,.inl ⟨none,rfl,rfl,rfl⟩⟩,List.nodup_nil,by simp⟩
 ·refine ⟨[g],⟨l.map cellF,rfl,.inr ⟨g,0,cap,by rw [List.length_map],rfl,by omega,by rw [List.length_map];exact hcap,hmax,⟨fun r hr => by obtain ⟨c,_,rfl⟩:=List.mem_map.1 hr;rfl,fun i r k x hr hx => ?_⟩,cc,53,hcc,by omega⟩⟩,by simp,by simpa using hg⟩
  rw [List.getElem?_map,Option.map_eq_some_iff] at hr
  obtain ⟨c,hc,rfl⟩:=hr
  have hi : i < l.length:=(List.getElem?_eq_some_iff.1 hc).1
  have hk : k < 3:=by
   have:=(List.getElem?_eq_some_iff.1 hx).1
   simpa [cellF] using this
  have h1:=(hH (i * 3 + k) (by simp only [size_flatK,List.size_toArray];omega)).1
  have e2 : (i * 3 + k) / 3 = i:=by omega
  have e3 : (i * 3 + k) % 3 = k:=by omega
  have e4 : l.toArray[i]! = c:=by
   have:=List.getElem?_eq_some_iff.1 hc
   obtain ⟨q1,q2⟩:=this
   simp [q1,q2,getElem!_pos]
  rw [get_flatK _ _ _ _ (by simp only [List.size_toArray];omega),e2,e3,e4] at h1
  refine ⟨_,h1,?_⟩
  match k,hx,hk with
  | 0,hx,_ => cases hx;exact ⟨rfl,.int _ _⟩
  | 1,hx,_ => cases hx;exact ⟨rfl,.int _ _⟩
  | 2,hx,_ => cases hx;exact ⟨rfl,.int _ _⟩
  | k + 3,hx,hk => omega
theorem resOne_own {own : List (Nat × Nat × Nat)} {i s t : Nat} {w : World} {A : Nat → Prop} {x : FV} {c : Value} {obs : List Nat} (hj : ownJ own i = [(0,s)]) (he : (E.ty t).isAgg = false) (g : OwnedV w A s x c obs) : ResOne E w A (ownJ own i) t x c obs:=by
 rw [hj]
 unfold ResOne
 simp only [he]
 exact g
theorem same_ext {A : Nat → Prop} {w w' : World} (hA : ∀ b,A b → b < w.heap.size) (hb : Go.RowKit.Below w.heap.size w w') : FExt w A w' A:=⟨fun _ h => h,fun b h => hb.block b (hA b h)⟩
theorem canon_ow {xs : List FV} {y : FV} (h : canonOw xs = some y) {cs : List Value} {w : World} {A : Nat → Prop} (hA : ∀ b,A b → b < w.heap.size) (ha : ArgsR E w A (pars E Tryz.f35) xs cs) :
  Calls Tryz.prog 35 cs.toArray w fun e w' => ∃ v,e = .returned v ∧ Ret E [(0,0,3)] Tryz.f35 w A y v w':=by
 unfold canonOw at h
 obtain ⟨y',h,h2⟩:=bindO_some h
 obtain ⟨x,l,r,cl,rfl,hr,hc,hn,rfl⟩:=canonOv_some h
 rw [canonA_eq] at h2
 simp only [rowsO_out,Option.some.injEq] at h2
 subst h2
 obtain ⟨a1,a2,gl,a3⟩:=ha
 have hp : pars E Tryz.f35 = [62,24]:=by kernel_rfl
 rw [hp] at a1 a3
 match cs,a2 with
 | [u,v],_ =>
  obtain ⟨h0,_⟩:=a3 0 _ _ _ rfl rfl rfl
  obtain ⟨h1,_⟩:=a3 1 _ _ _ rfl rfl rfl
  obtain ⟨u0,u1,rfl,q0,q1,_,q3⟩:=agg_inv h0
  cases q0
  refine (canon_walk w hA gl q1 q3 cl (cellsR_of h1 hr hc) hn).mono fun e w' ⟨z,he,hcel,hb⟩ => ?_
  obtain ⟨obs,g1,g2,g3⟩:=own_rel (A:=A) hcel
  refine ⟨_,he,A,[z,.int .i64 (canonR cl).1],[.arr ((canonR cl).2.map cellF),.int .i64 (canonR cl).1],obs,same_ext hA hb,fun b h => .inl h,fun b h => Nat.lt_of_lt_of_le (hA b h) hb.size,hb,rfl,rfl,by kernel_rfl,?_,g2,fun b h => ⟨g3 b h,fun hq => absurd (hA b hq) (Nat.not_lt.2 (g3 b h))⟩⟩
  rw [show Tryz.f35.resultTypes.toList = [24,25] by kernel_rfl]
  have e : (E.ty 24).isAgg = false:=by kernel_rfl
  exact ⟨obs,[],by simp,resOne_own rfl e g1,[],[],rfl,⟨.int _ _,fun _ => rfl,rfl⟩,rfl⟩
theorem world_ow {xs : List FV} {y : FV} (h : worldOw xs = some y) {cs : List Value} {w : World} {A : Nat → Prop} (hA : ∀ b,A b → b < w.heap.size) (ha : ArgsR E w A (pars E Tryz.f26) xs cs) :
  Calls Tryz.prog 26 cs.toArray w fun e w' => ∃ v,e = .returned v ∧ Ret E [(2,0,3)] Tryz.f26 w A y v w':=by
 unfold worldOw at h
 obtain ⟨y',h,h2⟩:=bindO_some h
 obtain ⟨l,p,r,ms,q,cl,rfl,hr,hm,hq,hc,n1,n2,rfl⟩:=worldOv_some h
 simp only [worldA,rowsO_out,Option.some.injEq] at h2
 subst h2
 obtain ⟨a1,a2,gl,a3⟩:=ha
 have hp : pars E Tryz.f26 = [33,24]:=by kernel_rfl
 rw [hp] at a1 a3
 match cs,a2 with
 | [u,v],_ =>
  obtain ⟨h0,_⟩:=a3 0 _ _ _ rfl rfl rfl
  obtain ⟨h1,ho⟩:=a3 1 _ _ _ rfl rfl rfl
  have h1v:=ho (by kernel_rfl)
  have hfr : FR w A (.arr (cl.map cellF)) v:=by
   rw [← celsF_map hc]
   cases h1 with
   | nilS a => cases hq;exact .arrNil _ _
   | arrNil a cap => cases hq;exact .arrNil _ _
   | arr rows a cap s u hs hcap hrow hA hm h1 hx => cases hq;exact .arr _ a cap s u hs hcap hrow hA hm h1 hx
   | _ => cases hq
  refine (world_walk w hA gl (movesR_of h0 hr hm) hfr h1v (cellsR_of h1 hq hc) n1 n2).mono fun e w' ⟨z,he,hcel,hb⟩ => ?_
  obtain ⟨obs,g1,g2,g3⟩:=own_rel (A:=A) hcel
  refine ⟨_,he,A,[.int .i64 (worldR ms cl).1,.int .i64 (worldR ms cl).2.1,z,.int .i64 (worldR ms cl).2.2.2.1,.int .i64 (worldR ms cl).2.2.2.2],[.int .i64 (worldR ms cl).1,.int .i64 (worldR ms cl).2.1,.arr ((worldR ms cl).2.2.1.map cellF),.int .i64 (worldR ms cl).2.2.2.1,.int .i64 (worldR ms cl).2.2.2.2],obs,same_ext hA hb,fun b h => .inl h,fun b h => Nat.lt_of_lt_of_le (hA b h) hb.size,hb,rfl,rfl,by kernel_rfl,?_,g2,fun b h => ⟨g3 b h,fun hq => absurd (hA b hq) (Nat.not_lt.2 (g3 b h))⟩⟩
  rw [show Tryz.f26.resultTypes.toList = [3,3,24,3,25] by kernel_rfl]
  have e : (E.ty 24).isAgg = false:=by kernel_rfl
  refine ⟨[],obs,rfl,⟨.int _ _,fun _ => rfl,rfl⟩,[],obs,rfl,⟨.int _ _,fun _ => rfl,rfl⟩,obs,[],by simp,resOne_own rfl e g1,[],[],rfl,⟨.int _ _,fun _ => rfl,rfl⟩,[],[],rfl,⟨.int _ _,fun _ => rfl,rfl⟩,rfl⟩
end Go.Proofs.YtpffkpaiihcffaaGreatDoor
end
section
namespace Go.Proofs.YtpffkpaiihcffaaGreatDoor
open Go Go.Proofs Go.Proofs.YtpffkpaiihcffaaGreatDoor.VM
theorem ov_five {g : Nat} {f : List FV → Option FV} (h : ovT g = some f) : (g = 35 ∧ f = canonOw) ∨ (g = 43 ∧ f = readOv) ∨ (g = 26 ∧ f = worldOw) ∨ (g = 23 ∧ f = trainOv) ∨ (g = 24 ∧ f = pulOv):=by
 unfold ovT at h
 split at h <;> cases h
 all_goals first
  | exact .inl ⟨rfl,rfl⟩
  | exact .inr (.inl ⟨rfl,rfl⟩)
  | exact .inr (.inr (.inl ⟨rfl,rfl⟩))
  | exact .inr (.inr (.inr (.inl ⟨rfl,rfl⟩)))
  | exact .inr (.inr (.inr (.inr ⟨rfl,rfl⟩)))
theorem ovOk : OvSpec Tryz.prog E where
 plain:=fun g f hf xs y own lend fn hm hg h cs w A hA ha => by
  rcases ov_five hf with ⟨rfl,rfl⟩ | ⟨rfl,rfl⟩ | ⟨rfl,rfl⟩ | ⟨rfl,rfl⟩ | ⟨rfl,rfl⟩
  ·have e1 : E.mode 35 = .call [(0,0,3)] false:=by kernel_rfl
   have e2 : E.fn 35 = some Tryz.f35:=by kernel_rfl
   rw [e1] at hm;rw [e2] at hg;cases hm;cases hg
   exact canon_ow h hA ha
  ·have e1 : E.mode 43 = .call [] false:=by kernel_rfl
   have e2 : E.fn 43 = some Tryz.f43:=by kernel_rfl
   rw [e1] at hm;rw [e2] at hg;cases hm;cases hg
   exact read_ov h hA ha
  ·have e1 : E.mode 26 = .call [(2,0,3)] false:=by kernel_rfl
   have e2 : E.fn 26 = some Tryz.f26:=by kernel_rfl
   rw [e1] at hm;rw [e2] at hg;cases hm;cases hg
   exact world_ow h hA ha
  ·have e1 : E.mode 23 = .call [] false:=by kernel_rfl
   have e2 : E.fn 23 = some Tryz.f23:=by kernel_rfl
   rw [e1] at hm;rw [e2] at hg;cases hm;cases hg
   exact train_ov h hA ha
  ·have e1 : E.mode 24 = .call [] false:=by kernel_rfl
   have e2 : E.fn 24 = some Tryz.f24:=by kernel_rfl
   rw [e1] at hm;rw [e2] at hg;cases hm;cases hg
   exact pul_ov h hA ha
 none:=fun g f hf ls own hm => by
  rcases ov_five hf with ⟨rfl,rfl⟩ | ⟨rfl,rfl⟩ | ⟨rfl,rfl⟩ | ⟨rfl,rfl⟩ | ⟨rfl,rfl⟩
  ·have e1 : E.mode 35 = .call [(0,0,3)] false:=by kernel_rfl
   rw [e1] at hm;cases hm
  ·have e1 : E.mode 43 = .call [] false:=by kernel_rfl
   rw [e1] at hm;cases hm
  ·have e1 : E.mode 26 = .call [(2,0,3)] false:=by kernel_rfl
   rw [e1] at hm;cases hm
  ·have e1 : E.mode 23 = .call [] false:=by kernel_rfl
   rw [e1] at hm;cases hm
  ·have e1 : E.mode 24 = .call [] false:=by kernel_rfl
   rw [e1] at hm;cases hm
end Go.Proofs.YtpffkpaiihcffaaGreatDoor
end
